/- law05.right: a key of a kind that may be, of whatever bytes -/
import Derived.Test.YtbmhmohpnhckgaaDoorDo5
namespace Go.Proofs.YtbmhmohpnhckgaaDoor
open Go.RowKit Lb
theorem Own.set {w : World} {base g c : Nat} {l : List UInt8} (h : Own w base (some ⟨g, 0, none⟩) c l) (j : Nat) (x : UInt8) : Own (w.setCell ⟨g, j, none⟩ (bv x)) base (some ⟨g, 0, none⟩) c (l.set j x) := by
  have := World.ownsRow.stored h j (bv x)
  unfold Own
  rw [List.length_set, List.map_set]
  exact this.1
theorem Own.cell_at {w : World} {base g c : Nat} {l : List UInt8} (h : Own w base (some ⟨g, 0, none⟩) c l) (j : Nat) (x : UInt8) (hj : l[j]? = some x) : w.cell? ⟨g, j, none⟩ = some (bv x) := by
  have hl := (List.getElem?_eq_some_iff.1 hj).1
  have := World.ownsRow.cellAt h j (by omega)
  rw [this, List.getElem?_map, hj]; rfl
theorem Own.frozen_at {w : World} {base g c : Nat} {l : List UInt8} (h : Own w base (some ⟨g, 0, none⟩) c l) (j : Nat) : w.frozen? ⟨g, j, none⟩ = false := World.ownsRow.frozenAt h j
def rightN (k : Int) : Nat := if k = 1 then 16 else if k = 2 then 24 else 4
def rightB (key : List UInt8) : St := fun i => if key.length = 0 then 0 else key.getD (i % key.length) 0
def rightL (k : Int) (key : List UInt8) : List UInt8 := tab (rightN k) (rightB key)
theorem rightL_length (k : Int) (key : List UInt8) : (rightL k key).length = rightN k := tab_length _ _
theorem right_ok (k : Int) (key : List UInt8) (hk : k = 1 ∨ k = 2 ∨ k = 3) : KeyOk k (rightL k key) := by
  rcases hk with rfl | rfl | rfl
  · exact .aes _ (.inl (rightL_length 1 key))
  · exact .des _ (.inr (.inr (rightL_length 2 key)))
  · exact .ora _ (by rw [rightL_length]; decide)
theorem right_fits (k : Int) (key : List UInt8) (hk : k = 1 ∨ k = 2 ∨ k = 3) : fitsK k (rightL k key).length = true := by
  rw [rightL_length]
  rcases hk with rfl | rfl | rfl <;> rfl
theorem tab_snoc (k : Nat) (F : St) : tab (k + 1) F = tab k F ++ [F k] := by simp [tab, List.range_succ]
theorem tab_snoc_set (k : Nat) (F : St) (x : UInt8) : (tab k F ++ [x]).set k (F k) = tab (k + 1) F := by
  rw [tab_snoc, List.set_append]
  simp [tab_length]
set_option maxRecDepth 100000 in
set_option maxHeartbeats 4000000 in
theorem right_1 (A : Option Addr) (n c : Nat) (key : List UInt8) (hn : n = key.length) (w : World) (hr : Rd w A key) (hlen : n ≤ 1000) :
    Calls Tryd.prog 15 #[.int .i64 1, .slice A n c] w fun e w' => ∃ A' c', e = .returned (.slice A' 16 c') ∧ Own w' w.heap.size A' c' (tab 16 (rightB key)) ∧ Below w.heap.size w w' := by
  have HN := Lib.hid hn
  clear hn
  obtain ⟨R, hR⟩ : ∃ R, R = rightB key := ⟨_, rfl⟩
  have HR := Lib.hid hR
  rw [← hR]
  clear hR
  go_enter Tryd.func15, Tryd.ntmps15
  go_wp2_with fail
  go_loopg [6, 7] 16 (fun gq s6 s7 wr => ∃ (k : Nat) (A' : Option Addr) (c' : Nat), k ≤ 16 ∧ gq = 16 - k ∧ s6 = .slice A' k c' ∧ s7 = .int .i64 (k : Int) ∧ Own wr w.heap.size A' c' (tab k R) ∧ Below w.heap.size w wr)
  case atStart => exact ⟨0, none, 0, by omega, rfl, rfl, rfl, Own.nil _ _, (Below.refl _ _).alloc (Nat.le_refl _) _⟩
  case round =>
    obtain ⟨k, A', c', hk, hgk, rfl, rfl, hown, hB⟩ := hrel
    have HG := Lib.hid hgk
    clear hgk
    by_cases hlt : k < 16
    · have hlen1 : Hid ((tab k R).length = k) := tab_length _ _
      have hs1 : tab k R ++ [R k] = tab (k + 1) R := (tab_snoc k R).symm
      have hs2 : (tab k R ++ [0]).set k (R k) = tab (k + 1) R := tab_snoc_set k R 0
      have HS1 := Lib.hid hs1
      have HS2 := Lib.hid hs2
      clear hs1 hs2
      obtain ⟨L, hL⟩ : ∃ L, L = tab k R := ⟨_, rfl⟩
      rw [← hL] at hown hlen1 HS1 HS2
      clear hL
      have hsz := hB.size
      go_wp2_with (first
        | (at_builtin; refine wpList_app rfl _ _ rfl w.heap.size _ _ _ L hlen1.out.symm rfl (hown.alloc _) (some ⟨wr.heap.size, 0, none⟩) 1 1 [0] rfl rfl (by exact Rd.of_blk (l := [0]) (Blk.new _ _ _)) (by rw [hlen1.out]; simp; omega) (by simp; omega) ?_; intro A2 c2 w3 hown' hg' hat'; refine lock_stop ?_))
      have hB2 : Below w.heap.size w w3 := (hB.alloc hB.size _).grown hg' (by simp; omega) (fun k hk => (hown.lt k hk).1)
      have hl2 : (L ++ [0]).length = k + 1 := by rw [List.length_append, hlen1.out]; rfl
      obtain ⟨g, rfl, hge, hgl⟩ : ∃ g, A2 = some ⟨g, 0, none⟩ ∧ w.heap.size ≤ g ∧ g < w3.heap.size := by
        rcases hown'.form with ⟨_, h⟩ | ⟨g, h1, h2, h3, _⟩
        · rw [h] at hl2; simp at hl2
        · exact ⟨g, h1, h2, h3⟩
      have h0 : (L ++ [0])[k]? = some 0 := by rw [List.getElem?_append_right (by rw [hlen1.out]; omega), hlen1.out]; simp
      have c1 := hown'.cell_at k 0 h0
      have f1 := hown'.frozen_at k
      have HC1 := Lib.hid c1
      rw [hlen1.out]
      have hr3 := hr.below hB2
      clear hg' hat' hown hB h0 hl2 hsz
      by_cases h0 : n = 0
      · subst h0
        have hRk : Hid (R k = 0) := by show _ = _; rw [HR.out]; unfold rightB; rw [if_pos HN.out.symm]
        have hown2 : Own w3 w.heap.size (some ⟨g, 0, none⟩) c2 (tab (k + 1) R) := by rw [← HS1.out, hRk.out]; exact hown'
        clear c1 f1 hown'
        refine lock_go ?_
        go_wp2_with fail
        go_roundg (16 - (k + 1))
        case measure => have := HG.out; omega
        case rel => exact ⟨k + 1, _, c2, by omega, rfl, rfl, by go_num, hown2, hB2⟩
      · obtain ⟨b, o, rfl, hblt, hcl⟩ := hr3.open_ (by have := HN.out; omega)
        have hkn : k % n < n := Nat.mod_lt _ (by omega)
        have c2' := hcl (k % n) (by have := HN.out; omega)
        have hRk : Hid (R k = key[k % n]?.getD 0) := by
          show _ = _
          rw [HR.out]; unfold rightB
          rw [if_neg (by have := HN.out; omega), ← HN.out, List.getD_eq_getElem?_getD]
        obtain ⟨v, hv⟩ : ∃ v, v = key[k % n]?.getD 0 := ⟨_, rfl⟩
        rw [← hv] at c2' hRk
        have hown2 : Own (w3.setCell ⟨g, k, none⟩ (bv v)) w.heap.size (some ⟨g, 0, none⟩) c2 (tab (k + 1) R) := by rw [← HS2.out, hRk.out]; exact hown'.set k v
        have HO2 := Lib.hid hown2
        clear hcl hown' hown2 hv
        have hpos : 0 < n := by omega
        rw [bv_def] at c1
        refine lock_go ?_
        go_wp2_with fail
        go_roundg (16 - (k + 1))
        case measure => have := HG.out; omega
        case rel => exact ⟨k + 1, _, c2, by omega, rfl, rfl, by go_num, HO2.out, hB2.setCell hge _⟩
    · obtain rfl : k = 16 := by omega
      go_wp2_with fail
      go_ret
      exact ⟨A', c', rfl, hown, hB⟩
set_option maxRecDepth 100000 in
set_option maxHeartbeats 4000000 in
theorem right_2 (A : Option Addr) (n c : Nat) (key : List UInt8) (hn : n = key.length) (w : World) (hr : Rd w A key) (hlen : n ≤ 1000) :
    Calls Tryd.prog 15 #[.int .i64 2, .slice A n c] w fun e w' => ∃ A' c', e = .returned (.slice A' 24 c') ∧ Own w' w.heap.size A' c' (tab 24 (rightB key)) ∧ Below w.heap.size w w' := by
  have HN := Lib.hid hn
  clear hn
  obtain ⟨R, hR⟩ : ∃ R, R = rightB key := ⟨_, rfl⟩
  have HR := Lib.hid hR
  rw [← hR]
  clear hR
  go_enter Tryd.func15, Tryd.ntmps15
  go_wp2_with fail
  go_loopg [6, 7] 24 (fun gq s6 s7 wr => ∃ (k : Nat) (A' : Option Addr) (c' : Nat), k ≤ 24 ∧ gq = 24 - k ∧ s6 = .slice A' k c' ∧ s7 = .int .i64 (k : Int) ∧ Own wr w.heap.size A' c' (tab k R) ∧ Below w.heap.size w wr)
  case atStart => exact ⟨0, none, 0, by omega, rfl, rfl, rfl, Own.nil _ _, (Below.refl _ _).alloc (Nat.le_refl _) _⟩
  case round =>
    obtain ⟨k, A', c', hk, hgk, rfl, rfl, hown, hB⟩ := hrel
    have HG := Lib.hid hgk
    clear hgk
    by_cases hlt : k < 24
    · have hlen1 : Hid ((tab k R).length = k) := tab_length _ _
      have hs1 : tab k R ++ [R k] = tab (k + 1) R := (tab_snoc k R).symm
      have hs2 : (tab k R ++ [0]).set k (R k) = tab (k + 1) R := tab_snoc_set k R 0
      have HS1 := Lib.hid hs1
      have HS2 := Lib.hid hs2
      clear hs1 hs2
      obtain ⟨L, hL⟩ : ∃ L, L = tab k R := ⟨_, rfl⟩
      rw [← hL] at hown hlen1 HS1 HS2
      clear hL
      have hsz := hB.size
      go_wp2_with (first
        | (at_builtin; refine wpList_app rfl _ _ rfl w.heap.size _ _ _ L hlen1.out.symm rfl (hown.alloc _) (some ⟨wr.heap.size, 0, none⟩) 1 1 [0] rfl rfl (by exact Rd.of_blk (l := [0]) (Blk.new _ _ _)) (by rw [hlen1.out]; simp; omega) (by simp; omega) ?_; intro A2 c2 w3 hown' hg' hat'; refine lock_stop ?_))
      have hB2 : Below w.heap.size w w3 := (hB.alloc hB.size _).grown hg' (by simp; omega) (fun k hk => (hown.lt k hk).1)
      have hl2 : (L ++ [0]).length = k + 1 := by rw [List.length_append, hlen1.out]; rfl
      obtain ⟨g, rfl, hge, hgl⟩ : ∃ g, A2 = some ⟨g, 0, none⟩ ∧ w.heap.size ≤ g ∧ g < w3.heap.size := by
        rcases hown'.form with ⟨_, h⟩ | ⟨g, h1, h2, h3, _⟩
        · rw [h] at hl2; simp at hl2
        · exact ⟨g, h1, h2, h3⟩
      have h0 : (L ++ [0])[k]? = some 0 := by rw [List.getElem?_append_right (by rw [hlen1.out]; omega), hlen1.out]; simp
      have c1 := hown'.cell_at k 0 h0
      have f1 := hown'.frozen_at k
      have HC1 := Lib.hid c1
      rw [hlen1.out]
      have hr3 := hr.below hB2
      clear hg' hat' hown hB h0 hl2 hsz
      by_cases h0 : n = 0
      · subst h0
        have hRk : Hid (R k = 0) := by show _ = _; rw [HR.out]; unfold rightB; rw [if_pos HN.out.symm]
        have hown2 : Own w3 w.heap.size (some ⟨g, 0, none⟩) c2 (tab (k + 1) R) := by rw [← HS1.out, hRk.out]; exact hown'
        clear c1 f1 hown'
        refine lock_go ?_
        go_wp2_with fail
        go_roundg (24 - (k + 1))
        case measure => have := HG.out; omega
        case rel => exact ⟨k + 1, _, c2, by omega, rfl, rfl, by go_num, hown2, hB2⟩
      · obtain ⟨b, o, rfl, hblt, hcl⟩ := hr3.open_ (by have := HN.out; omega)
        have hkn : k % n < n := Nat.mod_lt _ (by omega)
        have c2' := hcl (k % n) (by have := HN.out; omega)
        have hRk : Hid (R k = key[k % n]?.getD 0) := by
          show _ = _
          rw [HR.out]; unfold rightB
          rw [if_neg (by have := HN.out; omega), ← HN.out, List.getD_eq_getElem?_getD]
        obtain ⟨v, hv⟩ : ∃ v, v = key[k % n]?.getD 0 := ⟨_, rfl⟩
        rw [← hv] at c2' hRk
        have hown2 : Own (w3.setCell ⟨g, k, none⟩ (bv v)) w.heap.size (some ⟨g, 0, none⟩) c2 (tab (k + 1) R) := by rw [← HS2.out, hRk.out]; exact hown'.set k v
        have HO2 := Lib.hid hown2
        clear hcl hown' hown2 hv
        have hpos : 0 < n := by omega
        rw [bv_def] at c1
        refine lock_go ?_
        go_wp2_with fail
        go_roundg (24 - (k + 1))
        case measure => have := HG.out; omega
        case rel => exact ⟨k + 1, _, c2, by omega, rfl, rfl, by go_num, HO2.out, hB2.setCell hge _⟩
    · obtain rfl : k = 24 := by omega
      go_wp2_with fail
      go_ret
      exact ⟨A', c', rfl, hown, hB⟩
set_option maxRecDepth 100000 in
set_option maxHeartbeats 4000000 in
theorem right_3 (A : Option Addr) (n c : Nat) (key : List UInt8) (hn : n = key.length) (w : World) (hr : Rd w A key) (hlen : n ≤ 1000) :
    Calls Tryd.prog 15 #[.int .i64 3, .slice A n c] w fun e w' => ∃ A' c', e = .returned (.slice A' 4 c') ∧ Own w' w.heap.size A' c' (tab 4 (rightB key)) ∧ Below w.heap.size w w' := by
  have HN := Lib.hid hn
  clear hn
  obtain ⟨R, hR⟩ : ∃ R, R = rightB key := ⟨_, rfl⟩
  have HR := Lib.hid hR
  rw [← hR]
  clear hR
  go_enter Tryd.func15, Tryd.ntmps15
  go_wp2_with fail
  go_loopg [6, 7] 4 (fun gq s6 s7 wr => ∃ (k : Nat) (A' : Option Addr) (c' : Nat), k ≤ 4 ∧ gq = 4 - k ∧ s6 = .slice A' k c' ∧ s7 = .int .i64 (k : Int) ∧ Own wr w.heap.size A' c' (tab k R) ∧ Below w.heap.size w wr)
  case atStart => exact ⟨0, none, 0, by omega, rfl, rfl, rfl, Own.nil _ _, (Below.refl _ _).alloc (Nat.le_refl _) _⟩
  case round =>
    obtain ⟨k, A', c', hk, hgk, rfl, rfl, hown, hB⟩ := hrel
    have HG := Lib.hid hgk
    clear hgk
    by_cases hlt : k < 4
    · have hlen1 : Hid ((tab k R).length = k) := tab_length _ _
      have hs1 : tab k R ++ [R k] = tab (k + 1) R := (tab_snoc k R).symm
      have hs2 : (tab k R ++ [0]).set k (R k) = tab (k + 1) R := tab_snoc_set k R 0
      have HS1 := Lib.hid hs1
      have HS2 := Lib.hid hs2
      clear hs1 hs2
      obtain ⟨L, hL⟩ : ∃ L, L = tab k R := ⟨_, rfl⟩
      rw [← hL] at hown hlen1 HS1 HS2
      clear hL
      have hsz := hB.size
      go_wp2_with (first
        | (at_builtin; refine wpList_app rfl _ _ rfl w.heap.size _ _ _ L hlen1.out.symm rfl (hown.alloc _) (some ⟨wr.heap.size, 0, none⟩) 1 1 [0] rfl rfl (by exact Rd.of_blk (l := [0]) (Blk.new _ _ _)) (by rw [hlen1.out]; simp; omega) (by simp; omega) ?_; intro A2 c2 w3 hown' hg' hat'; refine lock_stop ?_))
      have hB2 : Below w.heap.size w w3 := (hB.alloc hB.size _).grown hg' (by simp; omega) (fun k hk => (hown.lt k hk).1)
      have hl2 : (L ++ [0]).length = k + 1 := by rw [List.length_append, hlen1.out]; rfl
      obtain ⟨g, rfl, hge, hgl⟩ : ∃ g, A2 = some ⟨g, 0, none⟩ ∧ w.heap.size ≤ g ∧ g < w3.heap.size := by
        rcases hown'.form with ⟨_, h⟩ | ⟨g, h1, h2, h3, _⟩
        · rw [h] at hl2; simp at hl2
        · exact ⟨g, h1, h2, h3⟩
      have h0 : (L ++ [0])[k]? = some 0 := by rw [List.getElem?_append_right (by rw [hlen1.out]; omega), hlen1.out]; simp
      have c1 := hown'.cell_at k 0 h0
      have f1 := hown'.frozen_at k
      have HC1 := Lib.hid c1
      rw [hlen1.out]
      have hr3 := hr.below hB2
      clear hg' hat' hown hB h0 hl2 hsz
      by_cases h0 : n = 0
      · subst h0
        have hRk : Hid (R k = 0) := by show _ = _; rw [HR.out]; unfold rightB; rw [if_pos HN.out.symm]
        have hown2 : Own w3 w.heap.size (some ⟨g, 0, none⟩) c2 (tab (k + 1) R) := by rw [← HS1.out, hRk.out]; exact hown'
        clear c1 f1 hown'
        refine lock_go ?_
        go_wp2_with fail
        go_roundg (4 - (k + 1))
        case measure => have := HG.out; omega
        case rel => exact ⟨k + 1, _, c2, by omega, rfl, rfl, by go_num, hown2, hB2⟩
      · obtain ⟨b, o, rfl, hblt, hcl⟩ := hr3.open_ (by have := HN.out; omega)
        have hkn : k % n < n := Nat.mod_lt _ (by omega)
        have c2' := hcl (k % n) (by have := HN.out; omega)
        have hRk : Hid (R k = key[k % n]?.getD 0) := by
          show _ = _
          rw [HR.out]; unfold rightB
          rw [if_neg (by have := HN.out; omega), ← HN.out, List.getD_eq_getElem?_getD]
        obtain ⟨v, hv⟩ : ∃ v, v = key[k % n]?.getD 0 := ⟨_, rfl⟩
        rw [← hv] at c2' hRk
        have hown2 : Own (w3.setCell ⟨g, k, none⟩ (bv v)) w.heap.size (some ⟨g, 0, none⟩) c2 (tab (k + 1) R) := by rw [← HS2.out, hRk.out]; exact hown'.set k v
        have HO2 := Lib.hid hown2
        clear hcl hown' hown2 hv
        have hpos : 0 < n := by omega
        rw [bv_def] at c1
        refine lock_go ?_
        go_wp2_with fail
        go_roundg (4 - (k + 1))
        case measure => have := HG.out; omega
        case rel => exact ⟨k + 1, _, c2, by omega, rfl, rfl, by go_num, HO2.out, hB2.setCell hge _⟩
    · obtain rfl : k = 4 := by omega
      go_wp2_with fail
      go_ret
      exact ⟨A', c', rfl, hown, hB⟩
theorem right_any (kind : Int) (hk : kind = 1 ∨ kind = 2 ∨ kind = 3) (A : Option Addr) (n c : Nat) (key : List UInt8) (hn : n = key.length) (w : World) (hr : Rd w A key) (hlen : n ≤ 1000) :
    Calls Tryd.prog 15 #[.int .i64 kind, .slice A n c] w fun e w' => ∃ A' c', e = .returned (.slice A' (rightN kind) c') ∧ Own w' w.heap.size A' c' (rightL kind key) ∧ Below w.heap.size w w' := by
  rcases hk with rfl | rfl | rfl
  · exact right_1 A n c key hn w hr hlen
  · exact right_2 A n c key hn w hr hlen
  · exact right_3 A n c key hn w hr hlen
end Go.Proofs.YtbmhmohpnhckgaaDoor
