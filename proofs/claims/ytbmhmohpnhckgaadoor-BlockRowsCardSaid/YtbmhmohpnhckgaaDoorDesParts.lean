/- TDES: a key's three parts -/
import Derived.Test.YtbmhmohpnhckgaaDoorDesOne
import Derived.Test.YtbmhmohpnhckgaaDoorDesTrip
import Derived.Test.YtbmhmohpnhckgaaDoorHeld
import Derived.Test.YtbmhmohpnhckgaaDoorBook
import Derived.Lib.SlBytesRow
namespace Go.Proofs.YtbmhmohpnhckgaaDoor
open Go.RowKit Lb
/-- m over l from o on -/
def splice : List UInt8 → Nat → List UInt8 → List UInt8
  | l, _, [] => l
  | l, o, x :: m => splice (l.set o x) (o + 1) m
theorem splice_length : ∀ (m l : List UInt8) (o : Nat), (splice l o m).length = l.length
  | [], _, _ => rfl
  | x :: m, l, o => by rw [splice, splice_length m]; simp
theorem splice_get : ∀ (m l : List UInt8) (o i : Nat), i < l.length → (splice l o m)[i]? = if o ≤ i ∧ i < o + m.length then m[i - o]? else l[i]?
  | [], l, o, i, hi => by
    have : ¬ (o ≤ i ∧ i < o + ([] : List UInt8).length) := by rw [List.length_nil]; omega
    rw [if_neg this]; rfl
  | x :: m, l, o, i, hi => by
    rw [splice, splice_get m _ (o + 1) i (by simpa using hi)]
    by_cases e : i = o
    · subst e
      rw [if_neg (by omega), if_pos (by simp)]
      simp [hi]
    · by_cases h : o + 1 ≤ i ∧ i < o + 1 + m.length
      · rw [if_pos h, if_pos (by simp only [List.length_cons]; omega), show i - o = (i - (o + 1)) + 1 by omega]
        simp
      · rw [if_neg h, if_neg (by simp only [List.length_cons]; omega), List.getElem?_set_ne (fun h => e h.symm)]
theorem splice_tab (n m o : Nat) (F G : St) : splice (tab n F) o (tab m G) = tab n (fun i => if o ≤ i ∧ i < o + m then G (i - o) else F i) := by
  apply List.ext_getElem?
  intro i
  by_cases hi : i < n
  · rw [splice_get _ _ _ _ (by simpa [tab_length] using hi), tab_get n (fun i => if o ≤ i ∧ i < o + m then G (i - o) else F i) i hi, tab_length]
    by_cases h : o ≤ i ∧ i < o + m
    · rw [if_pos h, if_pos h, tab_get _ _ _ (by omega)]
    · rw [if_neg h, if_neg h, tab_get n F i hi]
  · rw [List.getElem?_eq_none (by rw [splice_length, tab_length]; omega), List.getElem?_eq_none (by rw [tab_length]; omega)]
theorem Blk.setCells {g : Nat} {t : TypeId} : ∀ (m l : List UInt8) (o : Nat) (w : World), Blk w g t (cs l) → Blk (w.setCells g o (m.map bv)) g t (cs (splice l o m))
  | [], _, _, _, h => h
  | x :: m, l, o, w, h => by
    have h1 := h.set_ o (bv x)
    rw [cs_set] at h1
    exact Blk.setCells m (l.set o x) (o + 1) _ h1
theorem blk_splice {w : World} {g : Nat} {t : TypeId} {n m o : Nat} {F G : St} (h : Blk w g t (cs (tab n F))) : Blk (w.setCells g o (cs (tab m G)).toList) g t (cs (tab n (fun i => if o ≤ i ∧ i < o + m then G (i - o) else F i))) := by
  have h1 := Blk.setCells (tab m G) (tab n F) o w h
  rw [splice_tab] at h1
  have e : (cs (tab m G)).toList = (tab m G).map bv := by simp [cs]
  rw [e]; exact h1
theorem Rd.setCells {w : World} {A : Option Addr} {l : List UInt8} (h : Rd w A l) {g : Nat} (o : Nat) (vs : List Value) (hne : ∀ ad, A = some ad → ad.block ≠ g) : Rd (w.setCells g o vs) A l :=
  h.only (only_setCells vs o (only_refl w (some g))) hne
/-- a part of a slice of bytes -/
theorem rd_mid {w : World} {b o : Nat} {key : List UInt8} (h : Rd w (some ⟨b, o, none⟩) key) (j m : Nat) (hjm : j + m ≤ key.length) : w.rangeAt b (o + j) ((tab m (fun i => key.getD (j + i) 0)).map bv) := fun i v hv => by
  rw [List.getElem?_map] at hv
  by_cases hi : i < m
  · rw [tab_get _ _ _ hi] at hv
    have hv' : some (bv (key.getD (j + i) 0)) = some v := hv
    obtain rfl := Option.some.inj hv'
    obtain ⟨ad, e, _, _, hc⟩ := h (by omega)
    injection e with e; subst e
    have hk : key[j + i]? = some (key.getD (j + i) 0) := by rw [List.getD_eq_getElem?_getD, List.getElem?_eq_getElem (by omega)]; rfl
    have := hc (j + i) _ hk
    rwa [add_mk, ← Nat.add_assoc] at this
  · rw [List.getElem?_eq_none (by rw [tab_length]; omega)] at hv
    cases hv
theorem wpList_name_load {P : Program} {ops : Array Oper} {rest : List Oper} {o : Oper} {Q : Exit → Act → World → Prop} {a : Act} {w0 : World} (ty : TypeId) (x : Operand) (_ho : o.op = .load ty x) (h : ∀ W, Hid (W = w0) → wpList P ops Q (o :: rest) a W) : wpList P ops Q (o :: rest) a w0 := h w0 rfl
theorem info24 : (Tryd.prog.info? 91).map (·.size) = some 24 := by kernel_rfl
theorem size24 (F : St) : (Tryd.prog.info? 91).map (·.size) = some (cs (tab 24 F)).size := by rw [info24, cs_size, tab_length]
theorem size8l (F : St) : (Tryd.prog.info? 66).map (·.size) = some ((tab 8 F).map bv).length := by rw [info8', List.length_map, tab_length]
theorem cs_of_map (l : List UInt8) : (l.map bv).toArray = cs l := rfl
theorem part_24 (key : List UInt8) : ∀ i, i < 24 → (if 0 ≤ i ∧ i < 0 + 8 then (fun i => key.getD (0 + i) 0) (i - 0) else (fun i => if 8 ≤ i ∧ i < 8 + 8 then (fun i => key.getD (8 + i) 0) (i - 8) else (fun i => if 16 ≤ i ∧ i < 16 + 8 then (fun i => key.getD (16 + i) 0) (i - 16) else (fun _ => (0 : UInt8)) i) i) i) = partF 24 (fun i => key.getD i 0) i := by
  intro i hi
  simp only [partF]
  rw [if_pos hi]
  by_cases h0 : i < 8
  · rw [if_pos (by omega)]; congr 1; omega
  · rw [if_neg (by omega)]
    by_cases h1 : i < 16
    · rw [if_pos (by omega)]; congr 1; omega
    · rw [if_neg (by omega), if_pos (by omega)]; congr 1; omega
theorem sofar_16 (key : List UInt8) : ∀ i, i < 24 → (if 0 ≤ i ∧ i < 0 + 8 then (fun i => key.getD (0 + i) 0) (i - 0) else (fun i => if 8 ≤ i ∧ i < 8 + 8 then (fun i => key.getD (8 + i) 0) (i - 8) else (fun _ => (0 : UInt8)) i) i) = if i < 16 then key.getD i 0 else 0 := by
  intro i hi
  by_cases h0 : i < 8
  · rw [if_pos (by omega), if_pos (by omega)]; simp only []; congr 1; omega
  · rw [if_neg (by omega)]
    by_cases h1 : i < 16
    · simp only []; rw [if_pos (by omega), if_pos (by omega)]; congr 1; omega
    · simp only []; rw [if_neg (by omega), if_neg (by omega)]
theorem part_16 (key : List UInt8) : ∀ i, i < 24 → (if 16 ≤ i ∧ i < 16 + 8 then (fun i => key.getD i 0) (i - 16) else (fun i => if i < 16 then key.getD i 0 else (0 : UInt8)) i) = partF 16 (fun i => key.getD i 0) i := by
  intro i hi
  simp only [partF, if_true]
  by_cases h : i < 16
  · rw [if_neg (by omega), if_pos h, if_pos h]
  · rw [if_pos (by omega), if_neg h]
theorem part_8 (key : List UInt8) : ∀ i, i < 24 → (if 0 ≤ i ∧ i < 0 + 8 then (fun i => key.getD (0 + i) 0) (i - 0) else (fun _ => (0 : UInt8)) i) = partF 8 (fun i => key.getD i 0) i := by
  intro i hi
  simp only [partF]
  by_cases h : i < 8
  · rw [if_pos (by omega), if_pos (by omega)]; congr 1; omega
  · rw [if_neg (by omega), if_neg (by omega), if_neg (by decide)]
theorem head8 {w : World} {g : Nat} {t : TypeId} {key : List UInt8} (h : Blk w g t (cs (tab 24 (fun i => if i < 16 then key.getD i 0 else 0)))) : w.rangeAt g 0 ((tab 8 (fun i => key.getD i 0)).map bv) := fun j v hv => by
  rw [List.getElem?_map] at hv
  by_cases hi : j < 8
  · rw [tab_get _ _ _ hi] at hv
    rw [h.cell, cs_get, Nat.zero_add, tab_get _ _ _ (by omega), if_pos (by omega)]
    exact hv
  · rw [List.getElem?_eq_none (by rw [tab_length]; omega)] at hv
    cases hv
set_option maxRecDepth 100000 in
set_option maxHeartbeats 4000000 in
theorem desparts_24 (b o c : Nat) (key : List UInt8) (hn : key.length = 24) (hc : 24 ≤ c) (w : World) (hr : Rd w (some ⟨b, o, none⟩) key) :
    Calls Tryd.prog 35 #[.slice (some ⟨b, o, none⟩) 24 c] w fun e w' => e = .returned (.tuple #[.agg (cs (tab 24 (partF 24 (fun i => key.getD i 0)))), .bool true]) ∧ Below w.heap.size w w' := by
  obtain ⟨_, _, e, hblt, _⟩ := hr.open_ (by omega)
  injection e with e; injection e with e1 e2; subst e1 e2
  have HN := Lib.hid hn
  clear hn
  have harr : ∀ (o' c' : Nat) (w : World), (Instr.arrayAt 66 (.slice (some ⟨b, o', none⟩) 8 c')).run Tryd.prog w = .ok (.pointer (some ⟨b, o', none⟩)) w := fun o' c' w => run_arrayAt w _ _ 8 _ _ c' Tryd.underlying66 (by omega)
  go_enter Tryd.func35, Tryd.ntmps35
  go_wp2_with (first
    | (with_reducible refine wpList_name_load 66 _ rfl ?_; intro W hW; refine lock_stop ?_))
  have hB0 : Blk W (w.heap.size + 1) 91 (cs (tab 24 (fun _ => 0))) := by rw [hW.out]; exact Blk.new_at (by simp) _ _
  have hR0 : Blk W w.heap.size 91 (cs (tab 24 (fun _ => 0))) := by rw [hW.out]; exact (Blk.new _ _ _).alloc _
  have hr0 : Rd W (some ⟨b, o, none⟩) key := by rw [hW.out]; exact (hr.alloc _).alloc _
  have hW0 : Below w.heap.size w W := by rw [hW.out]; exact ((Below.refl _ _).alloc (Nat.le_refl _) _).alloc (by simp) _
  clear hW hr
  refine lock_go ?_
  go_wp2_with (first
    | (refine wpList_load_mid rfl 66 _ rfl b (o + 16) rfl ((tab 8 (fun i => key.getD (16 + i) 0)).map bv) _ (rd_mid hr0 16 8 (by rw [HN.out]; omega)) Tryd.underlying66 rfl (size8l _) ?_)
    | (refine wpList_store_mid rfl 66 _ _ rfl (w.heap.size + 1) 16 (cs (tab 8 (fun i => key.getD (16 + i) 0))) rfl rfl (hB0.there _ _ (by rw [cs_size, cs_size, tab_length, tab_length]; omega)) (size8 _) (one_cs _) ?_; refine wpList_name ?_; intro W1 hW1; refine lock_stop ?_))
  have hB1 := blk_splice (m := 8) (o := 16) (G := fun i => key.getD (16 + i) 0) hB0
  have hr1 := hr0.setCells (g := w.heap.size + 1) 16 (cs (tab 8 (fun i => key.getD (16 + i) 0))).toList (by intro ad e; injection e with e; subst e; simp only; omega)
  have hR1 := hR0.grown (only_setCells (cs (tab 8 (fun i => key.getD (16 + i) 0))).toList 16 (only_refl W (some (w.heap.size + 1)))) (by simp)
  have hWb1 := below_setCells (g := w.heap.size + 1) (by omega) (cs (tab 8 (fun i => key.getD (16 + i) 0))).toList 16 hW0
  rw [← hW1.out] at hB1 hr1 hR1 hWb1
  clear hB0 hr0 hR0 hW1
  refine lock_go ?_
  go_wp2_with (first
    | (refine wpList_load_mid rfl 66 _ rfl b (o + 8) rfl ((tab 8 (fun i => key.getD (8 + i) 0)).map bv) _ (rd_mid hr1 8 8 (by rw [HN.out]; omega)) Tryd.underlying66 rfl (size8l _) ?_)
    | (refine wpList_store_mid rfl 66 _ _ rfl (w.heap.size + 1) 8 (cs (tab 8 (fun i => key.getD (8 + i) 0))) rfl rfl (hB1.there _ _ (by rw [cs_size, cs_size, tab_length, tab_length]; omega)) (size8 _) (one_cs _) ?_; refine wpList_name ?_; intro W2 hW2; refine lock_stop ?_))
  have hB2 := blk_splice (m := 8) (o := 8) (G := fun i => key.getD (8 + i) 0) hB1
  have hr2 := hr1.setCells (g := w.heap.size + 1) 8 (cs (tab 8 (fun i => key.getD (8 + i) 0))).toList (by intro ad e; injection e with e; subst e; simp only; omega)
  have hR2 := hR1.grown (only_setCells (cs (tab 8 (fun i => key.getD (8 + i) 0))).toList 8 (only_refl W1 (some (w.heap.size + 1)))) (by simp)
  have hWb2 := below_setCells (g := w.heap.size + 1) (by omega) (cs (tab 8 (fun i => key.getD (8 + i) 0))).toList 8 hWb1
  rw [← hW2.out] at hB2 hr2 hR2 hWb2
  clear hB1 hr1 hR1 hW2
  refine lock_go ?_
  go_wp2_with (first
    | (refine wpList_load_mid rfl 66 _ rfl b o rfl ((tab 8 (fun i => key.getD (0 + i) 0)).map bv) _ (rd_mid hr2 0 8 (by rw [HN.out]; omega)) Tryd.underlying66 rfl (size8l _) ?_)
    | (refine wpList_store_mid rfl 66 _ _ rfl (w.heap.size + 1) 0 (cs (tab 8 (fun i => key.getD (0 + i) 0))) rfl rfl (hB2.there _ _ (by rw [cs_size, cs_size, tab_length, tab_length]; omega)) (size8 _) (one_cs _) ?_; refine wpList_name ?_; intro W3 hW3; refine lock_stop ?_))
  have hB3 := blk_splice (m := 8) (o := 0) (G := fun i => key.getD (0 + i) 0) hB2
  have hr3 := hr2.setCells (g := w.heap.size + 1) 0 (cs (tab 8 (fun i => key.getD (0 + i) 0))).toList (by intro ad e; injection e with e; subst e; simp only; omega)
  have hR3 := hR2.grown (only_setCells (cs (tab 8 (fun i => key.getD (0 + i) 0))).toList 0 (only_refl W2 (some (w.heap.size + 1)))) (by simp)
  have hWb3 := below_setCells (g := w.heap.size + 1) (by omega) (cs (tab 8 (fun i => key.getD (0 + i) 0))).toList 0 hWb2
  rw [← hW3.out] at hB3 hr3 hR3 hWb3
  clear hB2 hr2 hR2 hW3
  refine lock_go ?_
  have hF : Blk W3 (w.heap.size + 1) 91 (cs (tab 24 (partF 24 (fun i => key.getD i 0)))) := by
    have e : tab 24 _ = tab 24 (partF 24 (fun i => key.getD i 0)) := tab_congr 24 _ _ (part_24 key)
    rw [← e]; exact hB3
  clear hB3
  go_wp2_with (first
    | (refine wpList_load_row rfl 91 _ rfl (w.heap.size + 1) rfl 91 _ (0, 0) _ hF Tryd.underlying91 rfl (size24 _) ?_)
    | (refine wpList_store_blk rfl 91 _ _ rfl w.heap.size (cs (tab 24 (partF 24 (fun i => key.getD i 0)))) rfl rfl 91 _ hR3 (size24 _) (by rw [cs_size, cs_size, tab_length, tab_length]) (one_cs _) ?_))
  refine bodyPost_ret (results_cellt Tryd.results35 _ _ _ w.heap.size (cs (tab 24 (partF 24 (fun i => key.getD i 0)))) 91 rfl (hR3.setRow _) _ Tryd.underlying91 rfl (size24 _)) rfl ?_
  exact ⟨rfl, below_row hWb3 (Nat.le_refl _) _⟩
set_option maxRecDepth 100000 in
set_option maxHeartbeats 4000000 in
theorem desparts_16 (b o c : Nat) (key : List UInt8) (hn : key.length = 16) (hc : 16 ≤ c) (w : World) (hr : Rd w (some ⟨b, o, none⟩) key) :
    Calls Tryd.prog 35 #[.slice (some ⟨b, o, none⟩) 16 c] w fun e w' => e = .returned (.tuple #[.agg (cs (tab 24 (partF 16 (fun i => key.getD i 0)))), .bool true]) ∧ Below w.heap.size w w' := by
  obtain ⟨_, _, e, hblt, _⟩ := hr.open_ (by omega)
  injection e with e; injection e with e1 e2; subst e1 e2
  have HN := Lib.hid hn
  clear hn
  have harr : ∀ (o' c' : Nat) (w : World), (Instr.arrayAt 66 (.slice (some ⟨b, o', none⟩) 8 c')).run Tryd.prog w = .ok (.pointer (some ⟨b, o', none⟩)) w := fun o' c' w => run_arrayAt w _ _ 8 _ _ c' Tryd.underlying66 (by omega)
  go_enter Tryd.func35, Tryd.ntmps35
  go_wp2_with (first
    | (with_reducible refine wpList_name_load 66 _ rfl ?_; intro W hW; refine lock_stop ?_))
  have hB0 : Blk W (w.heap.size + 1) 91 (cs (tab 24 (fun _ => 0))) := by rw [hW.out]; exact Blk.new_at (by simp) _ _
  have hR0 : Blk W w.heap.size 91 (cs (tab 24 (fun _ => 0))) := by rw [hW.out]; exact (Blk.new _ _ _).alloc _
  have hr0 : Rd W (some ⟨b, o, none⟩) key := by rw [hW.out]; exact (hr.alloc _).alloc _
  have hW0 : Below w.heap.size w W := by rw [hW.out]; exact ((Below.refl _ _).alloc (Nat.le_refl _) _).alloc (by simp) _
  clear hW hr
  refine lock_go ?_
  go_wp2_with (first
    | (refine wpList_load_mid rfl 66 _ rfl b (o + 8) rfl ((tab 8 (fun i => key.getD (8 + i) 0)).map bv) _ (rd_mid hr0 8 8 (by rw [HN.out]; omega)) Tryd.underlying66 rfl (size8l _) ?_)
    | (refine wpList_store_mid rfl 66 _ _ rfl (w.heap.size + 1) 8 (cs (tab 8 (fun i => key.getD (8 + i) 0))) rfl rfl (hB0.there _ _ (by rw [cs_size, cs_size, tab_length, tab_length]; omega)) (size8 _) (one_cs _) ?_; refine wpList_name ?_; intro W1 hW1; refine lock_stop ?_))
  have hB1 := blk_splice (m := 8) (o := 8) (G := fun i => key.getD (8 + i) 0) hB0
  have hr1 := hr0.setCells (g := w.heap.size + 1) 8 (cs (tab 8 (fun i => key.getD (8 + i) 0))).toList (by intro ad e; injection e with e; subst e; simp only; omega)
  have hR1 := hR0.grown (only_setCells (cs (tab 8 (fun i => key.getD (8 + i) 0))).toList 8 (only_refl W (some (w.heap.size + 1)))) (by simp)
  have hWb1 := below_setCells (g := w.heap.size + 1) (by omega) (cs (tab 8 (fun i => key.getD (8 + i) 0))).toList 8 hW0
  rw [← hW1.out] at hB1 hr1 hR1 hWb1
  clear hB0 hr0 hR0 hW1
  refine lock_go ?_
  go_wp2_with (first
    | (refine wpList_load_mid rfl 66 _ rfl b o rfl ((tab 8 (fun i => key.getD (0 + i) 0)).map bv) _ (rd_mid hr1 0 8 (by rw [HN.out]; omega)) Tryd.underlying66 rfl (size8l _) ?_)
    | (refine wpList_store_mid rfl 66 _ _ rfl (w.heap.size + 1) 0 (cs (tab 8 (fun i => key.getD (0 + i) 0))) rfl rfl (hB1.there _ _ (by rw [cs_size, cs_size, tab_length, tab_length]; omega)) (size8 _) (one_cs _) ?_; refine wpList_name ?_; intro W2 hW2; refine lock_stop ?_))
  have hB2 := blk_splice (m := 8) (o := 0) (G := fun i => key.getD (0 + i) 0) hB1
  have hr2 := hr1.setCells (g := w.heap.size + 1) 0 (cs (tab 8 (fun i => key.getD (0 + i) 0))).toList (by intro ad e; injection e with e; subst e; simp only; omega)
  have hR2 := hR1.grown (only_setCells (cs (tab 8 (fun i => key.getD (0 + i) 0))).toList 0 (only_refl W1 (some (w.heap.size + 1)))) (by simp)
  have hWb2 := below_setCells (g := w.heap.size + 1) (by omega) (cs (tab 8 (fun i => key.getD (0 + i) 0))).toList 0 hWb1
  rw [← hW2.out] at hB2 hr2 hR2 hWb2
  clear hB1 hr1 hR1 hW2
  refine lock_go ?_
  have hc0 : Blk W2 (w.heap.size + 1) 91 (cs (tab 24 (fun i => if i < 16 then key.getD i 0 else 0))) := by
    have e : tab 24 _ = tab 24 (fun i => if i < 16 then key.getD i 0 else 0) := tab_congr 24 _ _ (sofar_16 key)
    rw [← e]; exact hB2
  go_wp2_with (first
    | (refine wpList_load_mid rfl 66 _ rfl (w.heap.size + 1) 0 rfl ((tab 8 (fun i => key.getD i 0)).map bv) _ (head8 hc0) Tryd.underlying66 rfl (size8l _) ?_)
    | (refine wpList_store_mid rfl 66 _ _ rfl (w.heap.size + 1) 16 (cs (tab 8 (fun i => key.getD i 0))) rfl rfl (hc0.there _ _ (by rw [cs_size, cs_size, tab_length, tab_length]; omega)) (size8 _) (one_cs _) ?_; refine wpList_name ?_; intro W3 hW3; refine lock_stop ?_))
  have hB3 := blk_splice (m := 8) (o := 16) (G := fun i => key.getD i 0) hc0
  have hR3 := hR2.grown (only_setCells (cs (tab 8 (fun i => key.getD i 0))).toList 16 (only_refl W2 (some (w.heap.size + 1)))) (by simp)
  have hWb3 := below_setCells (g := w.heap.size + 1) (by omega) (cs (tab 8 (fun i => key.getD i 0))).toList 16 hWb2
  rw [← hW3.out] at hB3 hR3 hWb3
  clear hB2 hr2 hR2 hc0 hW3
  refine lock_go ?_
  have hF : Blk W3 (w.heap.size + 1) 91 (cs (tab 24 (partF 16 (fun i => key.getD i 0)))) := by
    have e : tab 24 _ = tab 24 (partF 16 (fun i => key.getD i 0)) := tab_congr 24 _ _ (part_16 key)
    rw [← e]; exact hB3
  clear hB3
  go_wp2_with (first
    | (refine wpList_load_row rfl 91 _ rfl (w.heap.size + 1) rfl 91 _ (0, 0) _ hF Tryd.underlying91 rfl (size24 _) ?_)
    | (refine wpList_store_blk rfl 91 _ _ rfl w.heap.size (cs (tab 24 (partF 16 (fun i => key.getD i 0)))) rfl rfl 91 _ hR3 (size24 _) (by rw [cs_size, cs_size, tab_length, tab_length]) (one_cs _) ?_))
  refine bodyPost_ret (results_cellt Tryd.results35 _ _ _ w.heap.size (cs (tab 24 (partF 16 (fun i => key.getD i 0)))) 91 rfl (hR3.setRow _) _ Tryd.underlying91 rfl (size24 _)) rfl ?_
  exact ⟨rfl, below_row hWb3 (Nat.le_refl _) _⟩
set_option maxRecDepth 100000 in
set_option maxHeartbeats 4000000 in
theorem desparts_8 (b o c : Nat) (key : List UInt8) (hn : key.length = 8) (hc : 8 ≤ c) (w : World) (hr : Rd w (some ⟨b, o, none⟩) key) :
    Calls Tryd.prog 35 #[.slice (some ⟨b, o, none⟩) 8 c] w fun e w' => e = .returned (.tuple #[.agg (cs (tab 24 (partF 8 (fun i => key.getD i 0)))), .bool true]) ∧ Below w.heap.size w w' := by
  obtain ⟨_, _, e, hblt, _⟩ := hr.open_ (by omega)
  injection e with e; injection e with e1 e2; subst e1 e2
  have HN := Lib.hid hn
  clear hn
  have harr : ∀ (o' c' : Nat) (w : World), (Instr.arrayAt 66 (.slice (some ⟨b, o', none⟩) 8 c')).run Tryd.prog w = .ok (.pointer (some ⟨b, o', none⟩)) w := fun o' c' w => run_arrayAt w _ _ 8 _ _ c' Tryd.underlying66 (by omega)
  go_enter Tryd.func35, Tryd.ntmps35
  go_wp2_with (first
    | (with_reducible refine wpList_name_load 66 _ rfl ?_; intro W hW; refine lock_stop ?_))
  have hB0 : Blk W (w.heap.size + 1) 91 (cs (tab 24 (fun _ => 0))) := by rw [hW.out]; exact Blk.new_at (by simp) _ _
  have hR0 : Blk W w.heap.size 91 (cs (tab 24 (fun _ => 0))) := by rw [hW.out]; exact (Blk.new _ _ _).alloc _
  have hr0 : Rd W (some ⟨b, o, none⟩) key := by rw [hW.out]; exact (hr.alloc _).alloc _
  have hW0 : Below w.heap.size w W := by rw [hW.out]; exact ((Below.refl _ _).alloc (Nat.le_refl _) _).alloc (by simp) _
  clear hW hr
  refine lock_go ?_
  go_wp2_with (first
    | (refine wpList_load_mid rfl 66 _ rfl b o rfl ((tab 8 (fun i => key.getD (0 + i) 0)).map bv) _ (rd_mid hr0 0 8 (by rw [HN.out]; omega)) Tryd.underlying66 rfl (size8l _) ?_)
    | (refine wpList_store_mid rfl 66 _ _ rfl (w.heap.size + 1) 0 (cs (tab 8 (fun i => key.getD (0 + i) 0))) rfl rfl (hB0.there _ _ (by rw [cs_size, cs_size, tab_length, tab_length]; omega)) (size8 _) (one_cs _) ?_; refine wpList_name ?_; intro W1 hW1; refine lock_stop ?_))
  have hB1 := blk_splice (m := 8) (o := 0) (G := fun i => key.getD (0 + i) 0) hB0
  have hr1 := hr0.setCells (g := w.heap.size + 1) 0 (cs (tab 8 (fun i => key.getD (0 + i) 0))).toList (by intro ad e; injection e with e; subst e; simp only; omega)
  have hR1 := hR0.grown (only_setCells (cs (tab 8 (fun i => key.getD (0 + i) 0))).toList 0 (only_refl W (some (w.heap.size + 1)))) (by simp)
  have hWb1 := below_setCells (g := w.heap.size + 1) (by omega) (cs (tab 8 (fun i => key.getD (0 + i) 0))).toList 0 hW0
  rw [← hW1.out] at hB1 hr1 hR1 hWb1
  clear hB0 hr0 hR0 hW1
  refine lock_go ?_
  have hF : Blk W1 (w.heap.size + 1) 91 (cs (tab 24 (partF 8 (fun i => key.getD i 0)))) := by
    have e : tab 24 _ = tab 24 (partF 8 (fun i => key.getD i 0)) := tab_congr 24 _ _ (part_8 key)
    rw [← e]; exact hB1
  clear hB1
  go_wp2_with (first
    | (refine wpList_load_row rfl 91 _ rfl (w.heap.size + 1) rfl 91 _ (0, 0) _ hF Tryd.underlying91 rfl (size24 _) ?_)
    | (refine wpList_store_blk rfl 91 _ _ rfl w.heap.size (cs (tab 24 (partF 8 (fun i => key.getD i 0)))) rfl rfl 91 _ hR1 (size24 _) (by rw [cs_size, cs_size, tab_length, tab_length]) (one_cs _) ?_))
  refine bodyPost_ret (results_cellt Tryd.results35 _ _ _ w.heap.size (cs (tab 24 (partF 8 (fun i => key.getD i 0)))) 91 rfl (hR1.setRow _) _ Tryd.underlying91 rfl (size24 _)) rfl ?_
  exact ⟨rfl, below_row hWb1 (Nat.le_refl _) _⟩
end Go.Proofs.YtbmhmohpnhckgaaDoor
