import Derived.Test.YtbmhmohpnhckgaaDoorAesWords
import Derived.Test.YtbmhmohpnhckgaaDoorAesCols
import Derived.Laws.ResultCell
import Derived.Deep.LoopGhost
namespace Go.Proofs.YtbmhmohpnhckgaaDoor
open Go.RowKit Lb
theorem results_cell16 {fn : Func} {p u : Tmp} {ty : TypeId} (h : fn.results = #[.cell p ty, .tmp u]) (tmps : Array Value) (P : Program) (w : World) (g : Nat) (c : Array Value) (t : TypeId) (hp : tmps.getD p undef = .pointer (some ⟨g, 0, none⟩))
    (hb : Blk w g t c) (m : Nat) (e' : TypeId) (hu : P.underlying ty = some (.array m e')) (hi : (P.info? ty).map (·.size) = some c.size) :
    (results fn tmps).run P w = .ok (.tuple #[.agg c, tmps.getD u undef]) w := by
  rw [results_cell_tmp h, hp]
  have e : (asAddr (.pointer (some ⟨g, 0, none⟩))).run P w = .ok ⟨g, 0, none⟩ w := rfl
  rw [e]
  show ((loadVar ty ⟨g, 0, none⟩).run P w).andThen _ = _
  rw [run_loadVar_row w g t ty c (0, 0) _ hb hu rfl hi]
  rfl
set_option maxRecDepth 100000 in
set_option maxHeartbeats 4000000 in
theorem aesenc_any (A : Option Addr) (key : List UInt8) (nk : Nat) (hk4 : key.length = 4 * nk) (c : Nat) (F : St) (bv' : Array Value) (hbv : bv' = cs (tab 16 F)) (w : World) (hr : Rd w A key) (hn : nk = 4 ∨ nk = 6 ∨ nk = 8) :
    Calls Tryd.prog 39 #[.slice A (4 * nk) c, .agg bv'] w fun e w' => e = .returned (.tuple #[.agg (cs (tab 16 (encK key F))), .nilIface]) ∧ Below w.heap.size w w' := by
  subst hbv
  have HL := Lib.hid (keyWords_length key nk hk4 hn)
  have HK := Lib.hid hk4
  obtain ⟨n, hN⟩ : ∃ n, n = nr (4 * nk) := ⟨_, rfl⟩
  have hn1 : 10 ≤ n ∧ n ≤ 14 := by rcases hn with h | h | h <;> subst h <;> subst hN <;> exact ⟨by decide, by decide⟩
  obtain ⟨hn1, hn2⟩ := hn1
  have HN := Lib.hid hN
  have hkl : Hid ((keyWords key).length = 16 * (n + 1)) := by
    show _ = _
    rw [HL.out, HK.out, HN.out]
  clear hN hk4
  go_enter Tryd.func39, Tryd.ntmps39
  go_wp2_with fail
  have hz : (#[Value.int IntKind.u8 0, Value.int IntKind.u8 0, Value.int IntKind.u8 0, Value.int IntKind.u8 0, Value.int IntKind.u8 0, Value.int IntKind.u8 0, Value.int IntKind.u8 0, Value.int IntKind.u8 0, Value.int IntKind.u8 0, Value.int IntKind.u8 0, Value.int IntKind.u8 0, Value.int IntKind.u8 0, Value.int IntKind.u8 0, Value.int IntKind.u8 0, Value.int IntKind.u8 0, Value.int IntKind.u8 0] : Array Value) = cs (tab 16 (fun _ => 0)) := rfl
  rw [hz]
  clear hz
  have hB0 : Blk ((w.alloc (Obj.cells (cs (tab 16 F)) 41)).alloc (Obj.cells (cs (tab 16 (fun _ => 0))) 41)) w.heap.size 41 (cs (tab 16 F)) := (Blk.new _ _ _).alloc _
  have hR0 : Blk ((w.alloc (Obj.cells (cs (tab 16 F)) 41)).alloc (Obj.cells (cs (tab 16 (fun _ => 0))) 41)) (w.heap.size + 1) 41 (cs (tab 16 (fun _ => 0))) := by
    have := Blk.new (w.alloc (Obj.cells (cs (tab 16 F)) 41)) 41 (cs (tab 16 (fun _ => 0)))
    simpa using this
  have hW0 : Below w.heap.size w ((w.alloc (Obj.cells (cs (tab 16 F)) 41)).alloc (Obj.cells (cs (tab 16 (fun _ => 0))) 41)) := ((Below.refl _ _).alloc (Nat.le_refl _) _).alloc (by simp) _
  have hsz0 : ((w.alloc (Obj.cells (cs (tab 16 F)) 41)).alloc (Obj.cells (cs (tab 16 (fun _ => 0))) 41)).heap.size = w.heap.size + 2 := by simp
  refine (aeswords_any A key nk HK.out c _ ((hr.alloc _).alloc _) hn).mono ?_
  rintro e w1 ⟨A', c', rfl, hown, hbel⟩
  rw [hsz0] at hown hbel
  have hB1 := hB0.below hbel (by omega)
  have hR1 := hR0.below hbel (by omega)
  have hW1 : Below w.heap.size w w1 := hW0.trans (hbel.mono (by omega))
  clear hB0 hR0 hW0 hsz0 hbel hr
  go_wp2_with fail
  refine (aesrounds_any _ _ _ _).mono ?_
  rintro e w' ⟨rfl, rfl⟩
  rw [← HN.out]
  go_wp2_with fail
  refine (aeswith_any w.heap.size F A' (keyWords key) c' 0 _ rfl (by rw [hkl.out]; omega) (by rw [hkl.out]; omega) _ hB1 hown.rd ?_).mono ?_
  · intro ad had
    rcases hown.form with ⟨h, _⟩ | ⟨g, h, h2, _⟩
    · rw [h] at had; cases had
    · rw [h] at had; injection had with had; rw [← had]; simp only; omega
  rintro e w2 ⟨rfl, hB2, hG2⟩
  have hown2 := hown.only hG2 (by intro h; have := (hown.lt _ h).1; omega)
  have hR2 := hR1.grown hG2 (by simp)
  have hW2 : Below w.heap.size w w2 := hW1.trans (below_of_only hG2 (by have := hB1.lt; omega))
  clear hB1 hR1 hW1 hG2 hown
  go_wp2_with fail
  have hne : ∀ ad, A' = some ad → ad.block ≠ w.heap.size := by
    intro ad had
    rcases hown2.form with ⟨h, _⟩ | ⟨g, h, h2, _⟩
    · rw [h] at had; cases had
    · rw [h] at had; injection had with had; rw [← had]; simp only; omega
  have HNE := Lib.hid hne
  have hbk : Hid (blkOf A' ≠ some w.heap.size) := by intro h; have := (hown2.lt _ h).1; omega
  clear hne
  have HE0 : Hid (encGo (keyWords key) n n 1 (withK F (keyWords key) 0) = encK key F) := by
    show _ = _
    unfold encK; rw [HK.out, ← HN.out]
  go_loopg [9] n (fun gq s9 wr => ∃ (r : Nat) (S : St), s9 = .int .i64 r ∧ 1 ≤ r ∧ r ≤ n + 1 ∧ gq = n + 1 - r ∧ Blk wr w.heap.size 41 (cs (tab 16 S)) ∧ Blk wr (w.heap.size + 1) 41 (cs (tab 16 (fun _ => 0))) ∧ Own wr (w.heap.size + 2) A' c' (keyWords key) ∧
      Below w.heap.size w wr ∧ Hid (encGo (keyWords key) n (n + 1 - r) r S = encK key F))
  case atStart => exact ⟨1, _, rfl, by omega, by omega, by omega, hB2, hR2, hown2, hW2, HE0⟩
  case round =>
    clear hB2 hR2 hown2 hW2 HE0
    obtain ⟨r, S, rfl, hr1, hr2, hgk, hB, hR, hO, hW, HE⟩ := hrel
    have HG := Lib.hid hgk
    clear hgk
    by_cases hlt : r ≤ n
    · have hwl : w.heap.size ≤ wr.heap.size := hW.size
      have HS := Lib.hid hwl
      clear hwl
      go_wp2_with fail
      refine (aesboxes_gbox w.heap.size S _ hB).mono ?_
      rintro e w3 ⟨rfl, hB3, hG3⟩
      have hO3 := hO.only hG3 hbk.out
      have hR3 := hR.grown hG3 (by simp)
      have hW3 : Below w.heap.size w w3 := hW.trans (below_of_only hG3 HS.out)
      clear hB hR hO hW HS hG3
      go_wp2_with fail
      refine (aesrows_any w.heap.size _ 1 _ rfl (.inl rfl) _ hB3).mono ?_
      rintro e w4 ⟨rfl, hB4, hG4⟩
      have hO4 := hO3.only hG4 hbk.out
      have hR4 := hR3.grown hG4 (by simp)
      have hW4 : Below w.heap.size w w4 := hW3.trans (below_of_only hG4 hW3.size)
      clear hB3 hR3 hO3 hG4
      have step : ∀ X : St, X = (if r < n then colsK (rowsK (boxesK S gbox) 1) mE else rowsK (boxesK S gbox) 1) → Hid (encGo (keyWords key) n (n + 1 - (r + 1)) (r + 1) (withK X (keyWords key) r) = encK key F) := by
        intro X hX
        show _ = _
        have e : n + 1 - r = (n + 1 - (r + 1)) + 1 := by omega
        have h := HE.out
        rw [e] at h
        rw [hX]
        exact h
      have ST := Lib.hid step
      clear step
      by_cases hl2 : r < n
      · go_wp2_with fail
        refine (aescols_any w.heap.size _ mE _ rfl _ hB4).mono ?_
        rintro e w5 ⟨rfl, hB5, hG5⟩
        have hO5 := hO4.only hG5 hbk.out
        have hR5 := hR4.grown hG5 (by simp)
        have hW5 : Below w.heap.size w w5 := hW4.trans (below_of_only hG5 hW4.size)
        clear hB4 hR4 hO4 hG5 hW4
        have ST2 := ST.out _ (if_pos hl2).symm
        go_wp2_with fail
        refine (aeswith_any w.heap.size _ A' (keyWords key) c' r _ rfl (by rw [hkl.out]; omega) (by rw [hkl.out]; omega) _ hB5 hO5.rd HNE.out).mono ?_
        rintro e w6 ⟨rfl, hB6, hG6⟩
        have hO6 := hO5.only hG6 hbk.out
        have hR6 := hR5.grown hG6 (by simp)
        have hW6 : Below w.heap.size w w6 := hW5.trans (below_of_only hG6 hW5.size)
        clear hB5 hR5 hO5 hG6 hW5
        go_wp2_with fail
        go_roundg (n + 1 - (r + 1))
        case measure => have := HG.out; omega
        case rel => exact ⟨r + 1, _, by go_num, by omega, by omega, rfl, hB6, hR6, hO6, hW6, ST2⟩
      · have ST2 := ST.out _ (if_neg hl2).symm
        go_wp2_with fail
        refine (aeswith_any w.heap.size _ A' (keyWords key) c' r _ rfl (by rw [hkl.out]; omega) (by rw [hkl.out]; omega) _ hB4 hO4.rd HNE.out).mono ?_
        rintro e w6 ⟨rfl, hB6, hG6⟩
        have hO6 := hO4.only hG6 hbk.out
        have hR6 := hR4.grown hG6 (by simp)
        have hW6 : Below w.heap.size w w6 := hW4.trans (below_of_only hG6 hW4.size)
        clear hB4 hR4 hO4 hG6 hW4
        go_wp2_with fail
        go_roundg (n + 1 - (r + 1))
        case measure => have := HG.out; omega
        case rel => exact ⟨r + 1, _, by go_num, by omega, by omega, rfl, hB6, hR6, hO6, hW6, ST2⟩
    · obtain rfl : r = n + 1 := by omega
      have hfin : Hid (S = encK key F) := by
        have h := HE.out
        rw [Nat.sub_self] at h
        exact h
      go_wp2_with (first
        | (refine wpList_load_row rfl 41 _ rfl w.heap.size rfl 41 _ (0, 0) _ hB Tryd.underlying41 rfl (size16 S) ?_)
        | (refine wpList_store_blk rfl 41 _ _ rfl (w.heap.size + 1) (cs (tab 16 S)) rfl rfl 41 _ hR (size16 S) (by rw [cs_size, cs_size, tab_length, tab_length]) (one_cs _) ?_))
      refine bodyPost_ret (results_cell16 Tryd.results39 _ _ _ (w.heap.size + 1) (cs (tab 16 S)) 41 rfl (hR.setRow _) _ _ Tryd.underlying41 (size16 S)) rfl ?_
      exact ⟨by rw [hfin.out]; rfl, below_row hW (by omega) _⟩
set_option maxRecDepth 100000 in
set_option maxHeartbeats 4000000 in
theorem aesdec_any (A : Option Addr) (key : List UInt8) (nk : Nat) (hk4 : key.length = 4 * nk) (c : Nat) (F : St) (bv' : Array Value) (hbv : bv' = cs (tab 16 F)) (w : World) (hr : Rd w A key) (hn : nk = 4 ∨ nk = 6 ∨ nk = 8) :
    Calls Tryd.prog 38 #[.slice A (4 * nk) c, .agg bv'] w fun e w' => e = .returned (.tuple #[.agg (cs (tab 16 (decK key F))), .nilIface]) ∧ Below w.heap.size w w' := by
  subst hbv
  have HL := Lib.hid (keyWords_length key nk hk4 hn)
  have HK := Lib.hid hk4
  obtain ⟨n, hN⟩ : ∃ n, n = nr (4 * nk) := ⟨_, rfl⟩
  have hn1 : 10 ≤ n ∧ n ≤ 14 := by rcases hn with h | h | h <;> subst h <;> subst hN <;> exact ⟨by decide, by decide⟩
  obtain ⟨hn1, hn2⟩ := hn1
  have HN := Lib.hid hN
  have hkl : Hid ((keyWords key).length = 16 * (n + 1)) := by
    show _ = _
    rw [HL.out, HK.out, HN.out]
  clear hN hk4
  go_enter Tryd.func38, Tryd.ntmps38
  go_wp2_with fail
  have hz : (#[Value.int IntKind.u8 0, Value.int IntKind.u8 0, Value.int IntKind.u8 0, Value.int IntKind.u8 0, Value.int IntKind.u8 0, Value.int IntKind.u8 0, Value.int IntKind.u8 0, Value.int IntKind.u8 0, Value.int IntKind.u8 0, Value.int IntKind.u8 0, Value.int IntKind.u8 0, Value.int IntKind.u8 0, Value.int IntKind.u8 0, Value.int IntKind.u8 0, Value.int IntKind.u8 0, Value.int IntKind.u8 0] : Array Value) = cs (tab 16 (fun _ => 0)) := rfl
  rw [hz]
  clear hz
  have hB0 : Blk ((w.alloc (Obj.cells (cs (tab 16 F)) 41)).alloc (Obj.cells (cs (tab 16 (fun _ => 0))) 41)) w.heap.size 41 (cs (tab 16 F)) := (Blk.new _ _ _).alloc _
  have hR0 : Blk ((w.alloc (Obj.cells (cs (tab 16 F)) 41)).alloc (Obj.cells (cs (tab 16 (fun _ => 0))) 41)) (w.heap.size + 1) 41 (cs (tab 16 (fun _ => 0))) := by
    have := Blk.new (w.alloc (Obj.cells (cs (tab 16 F)) 41)) 41 (cs (tab 16 (fun _ => 0)))
    simpa using this
  have hW0 : Below w.heap.size w ((w.alloc (Obj.cells (cs (tab 16 F)) 41)).alloc (Obj.cells (cs (tab 16 (fun _ => 0))) 41)) := ((Below.refl _ _).alloc (Nat.le_refl _) _).alloc (by simp) _
  have hsz0 : ((w.alloc (Obj.cells (cs (tab 16 F)) 41)).alloc (Obj.cells (cs (tab 16 (fun _ => 0))) 41)).heap.size = w.heap.size + 2 := by simp
  refine (aeswords_any A key nk HK.out c _ ((hr.alloc _).alloc _) hn).mono ?_
  rintro e w1 ⟨A', c', rfl, hown, hbel⟩
  rw [hsz0] at hown hbel
  have hB1 := hB0.below hbel (by omega)
  have hR1 := hR0.below hbel (by omega)
  have hW1 : Below w.heap.size w w1 := hW0.trans (hbel.mono (by omega))
  clear hB0 hR0 hW0 hsz0 hbel hr
  go_wp2_with fail
  refine (aesrounds_any _ _ _ _).mono ?_
  rintro e w' ⟨rfl, rfl⟩
  rw [← HN.out]
  have hne : ∀ ad, A' = some ad → ad.block ≠ w.heap.size := by
    intro ad had
    rcases hown.form with ⟨h, _⟩ | ⟨g, h, h2, _⟩
    · rw [h] at had; cases had
    · rw [h] at had; injection had with had; rw [← had]; simp only; omega
  have HNE := Lib.hid hne
  have hbk : Hid (blkOf A' ≠ some w.heap.size) := by intro h; have := (hown.lt _ h).1; omega
  clear hne
  have HE0 : Hid (withK (decGo (keyWords key) n n F) (keyWords key) 0 = decK key F) := by
    show _ = _
    unfold decK; rw [HK.out, ← HN.out]
  go_wp2_with fail
  go_loopg [9] (n + 1) (fun gq s9 wr => ∃ (r : Nat) (S : St), s9 = .int .i64 r ∧ r ≤ n ∧ gq = r + 1 ∧ Blk wr w.heap.size 41 (cs (tab 16 S)) ∧ Blk wr (w.heap.size + 1) 41 (cs (tab 16 (fun _ => 0))) ∧ Own wr (w.heap.size + 2) A' c' (keyWords key) ∧
      Below w.heap.size w wr ∧ Hid (withK (decGo (keyWords key) n r S) (keyWords key) 0 = decK key F))
  case atStart => exact ⟨n, _, rfl, by omega, rfl, hB1, hR1, hown, hW1, HE0⟩
  case round =>
    clear hB1 hR1 hown hW1 HE0
    obtain ⟨r, S, rfl, hr2, hgk, hB, hR, hO, hW, HE⟩ := hrel
    have HG := Lib.hid hgk
    clear hgk
    by_cases hlt : 1 ≤ r
    · obtain ⟨q, rfl⟩ : ∃ q, r = q + 1 := ⟨r - 1, by omega⟩
      go_wp2_with fail
      refine (aeswith_any w.heap.size _ A' (keyWords key) c' (q + 1) _ (by simp) (by rw [hkl.out]; omega) (by rw [hkl.out]; omega) _ hB hO.rd HNE.out).mono ?_
      rintro e w3 ⟨rfl, hB3, hG3⟩
      have hO3 := hO.only hG3 hbk.out
      have hR3 := hR.grown hG3 (by simp)
      have hW3 : Below w.heap.size w w3 := hW.trans (below_of_only hG3 hW.size)
      clear hB hR hO hW hG3
      have step : ∀ X : St, X = (if q + 1 < n then colsK (withK S (keyWords key) (q + 1)) mD else withK S (keyWords key) (q + 1)) → Hid (withK (decGo (keyWords key) n q (boxesK (rowsK X 3) gunbox)) (keyWords key) 0 = decK key F) := by
        intro X hX
        show _ = _
        have h := HE.out
        rw [hX]
        exact h
      have ST := Lib.hid step
      clear step
      by_cases hl2 : q + 1 < n
      · have ST2 := ST.out _ (if_pos hl2).symm
        go_wp2_with fail
        refine (aescols_any w.heap.size _ mD _ rfl _ hB3).mono ?_
        rintro e w4 ⟨rfl, hB4, hG4⟩
        have hO4 := hO3.only hG4 hbk.out
        have hR4 := hR3.grown hG4 (by simp)
        have hW4 : Below w.heap.size w w4 := hW3.trans (below_of_only hG4 hW3.size)
        clear hB3 hR3 hO3 hG4 hW3
        go_wp2_with fail
        refine (aesrows_any w.heap.size _ 3 _ rfl (.inr rfl) _ hB4).mono ?_
        rintro e w5 ⟨rfl, hB5, hG5⟩
        have hO5 := hO4.only hG5 hbk.out
        have hR5 := hR4.grown hG5 (by simp)
        have hW5 : Below w.heap.size w w5 := hW4.trans (below_of_only hG5 hW4.size)
        clear hB4 hR4 hO4 hG5 hW4
        go_wp2_with fail
        refine (aesboxes_gunbox w.heap.size _ _ hB5).mono ?_
        rintro e w6 ⟨rfl, hB6, hG6⟩
        have hO6 := hO5.only hG6 hbk.out
        have hR6 := hR5.grown hG6 (by simp)
        have hW6 : Below w.heap.size w w6 := hW5.trans (below_of_only hG6 hW5.size)
        clear hB5 hR5 hO5 hG6 hW5
        go_wp2_with fail
        go_roundg (q + 1)
        case measure => have := HG.out; omega
        case rel => exact ⟨q, _, by go_num, by omega, rfl, hB6, hR6, hO6, hW6, ST2⟩
      · have ST2 := ST.out _ (if_neg hl2).symm
        go_wp2_with fail
        refine (aesrows_any w.heap.size _ 3 _ rfl (.inr rfl) _ hB3).mono ?_
        rintro e w5 ⟨rfl, hB5, hG5⟩
        have hO5 := hO3.only hG5 hbk.out
        have hR5 := hR3.grown hG5 (by simp)
        have hW5 : Below w.heap.size w w5 := hW3.trans (below_of_only hG5 hW3.size)
        clear hB3 hR3 hO3 hG5 hW3
        go_wp2_with fail
        refine (aesboxes_gunbox w.heap.size _ _ hB5).mono ?_
        rintro e w6 ⟨rfl, hB6, hG6⟩
        have hO6 := hO5.only hG6 hbk.out
        have hR6 := hR5.grown hG6 (by simp)
        have hW6 : Below w.heap.size w w6 := hW5.trans (below_of_only hG6 hW5.size)
        clear hB5 hR5 hO5 hG6 hW5
        go_wp2_with fail
        go_roundg (q + 1)
        case measure => have := HG.out; omega
        case rel => exact ⟨q, _, by go_num, by omega, rfl, hB6, hR6, hO6, hW6, ST2⟩
    · obtain rfl : r = 0 := by omega
      go_wp2_with fail
      refine (aeswith_any w.heap.size _ A' (keyWords key) c' 0 _ rfl (by rw [hkl.out]; omega) (by rw [hkl.out]; omega) _ hB hO.rd HNE.out).mono ?_
      rintro e w3 ⟨rfl, hB3, hG3⟩
      have hR3 := hR.grown hG3 (by simp)
      have hW3 : Below w.heap.size w w3 := hW.trans (below_of_only hG3 hW.size)
      clear hB hR hO hW hG3
      have hfin : Hid (withK S (keyWords key) 0 = decK key F) := HE
      go_wp2_with (first
        | (refine wpList_load_row rfl 41 _ rfl w.heap.size rfl 41 _ (0, 0) _ hB3 Tryd.underlying41 rfl (size16 _) ?_)
        | (refine wpList_store_blk rfl 41 _ _ rfl (w.heap.size + 1) (cs (tab 16 (withK S (keyWords key) 0))) rfl rfl 41 _ hR3 (size16 _) (by rw [cs_size, cs_size, tab_length, tab_length]) (one_cs _) ?_))
      refine bodyPost_ret (results_cell16 Tryd.results38 _ _ _ (w.heap.size + 1) (cs (tab 16 (withK S (keyWords key) 0))) 41 rfl (hR3.setRow _) _ _ Tryd.underlying41 (size16 _)) rfl ?_
      exact ⟨by rw [hfin.out]; rfl, below_row hW3 (by omega) _⟩
end Go.Proofs.YtbmhmohpnhckgaaDoor
