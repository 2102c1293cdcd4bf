/- (*Cipher).Do: the oracle -/
import Derived.Test.YtbmhmohpnhckgaaDoorAsk2
import Derived.Lib.SlBytesRow
namespace Go.Proofs.YtbmhmohpnhckgaaDoor
set_option linter.unusedSimpArgs false
open Go.RowKit
theorem conv_key (b o n c : Nat) (key : List UInt8) (hn : n = key.length) (hp : 0 < n) (w : World) (hr : Rd w (some ⟨b, o, none⟩) key) : (convert 22 9 (.slice (some ⟨b, o, none⟩) n c)).run Tryd.prog w = .ok (.string ⟨key.toArray⟩) w := by
  subst hn
  have h := Lib.run_convert_whole (P := Tryd.prog) w 22 5 9 Tryd.underlying22 Tryd.underlying5 Tryd.underlying9 b o ⟨key.toArray⟩ (fun i hi => by
    obtain ⟨ad, e, _, _, hc⟩ := hr hp
    injection e with e; subst e
    have hi' : i < key.length := by simpa [ByteArray.size] using hi
    have h2 := hc i key[i] (List.getElem?_eq_getElem hi')
    rw [add_mk] at h2
    rw [h2]
    rfl) c
  have e : (⟨key.toArray⟩ : ByteArray).size = key.length := by simp [ByteArray.size]
  rw [e] at h
  exact h
set_option maxRecDepth 100000 in
set_option maxHeartbeats 8000000 in
theorem wide_oracle {F : Nat → Prop} {p pb : Nat} {rows : List BRow} {tape key : List UInt8} (w : World) (hbook : BookIs w F pb rows tape) (hc : Cip w F p 3 key (some ⟨pb, 0, none⟩)) (x : List UInt8) (hx : x.length = 16) (hk0 : 0 < key.length) (back : Bool) (hmax : rows.length ≤ 1000000) (htm : tape.length ≤ 65536) :
    Calls Tryd.prog 26 #[.pointer (some ⟨p, 0, none⟩), .agg (cs x), .bool back] w fun e w' =>
      ∃ F', (∀ i, F' i → F i ∨ w.heap.size ≤ i) ∧ BookIs w' F' pb (askP rows tape key x back).2.1 (askP rows tape key x back).2.2 ∧ Fr F w w' ∧
        ((∃ y, (askP rows tape key x back).1 = some y ∧ y.length = 16 ∧ e = .returned (.tuple #[.agg (cs y), .nilIface])) ∨ ((askP rows tape key x back).1 = none ∧ ∃ v, e = .returned (.tuple #[.agg (cs zero16), v]) ∧ ErrIs w' 13 v)) := by
  obtain ⟨K, cK, hb, hr, hnp, hnK, _⟩ := hc
  obtain ⟨n, hN⟩ : ∃ n, n = key.length := ⟨_, rfl⟩
  rw [← hN] at hb
  have HN := Lib.hid hN
  clear hN
  have hn0 : 0 < n := by have := HN.out; omega
  obtain ⟨bK, oK, rfl, hbK, _⟩ := hr.open_ hk0
  have HX := Lib.hid hx
  have zx : (Tryd.prog.info? 41).map (·.size) = some (x.map bv).length := by rw [List.length_map, hx]; exact info16'
  have u41 := Tryd.underlying41
  clear hx
  have c0 := fun o1 o2 => cell_alloc (cell_alloc (w := w) (b := p) (o := 0) (hb.cell 0) o1) o2
  go_enter Tryd.func26, Tryd.ntmps26
  go_wp2_with fail
  refine wp_name ?_
  intro W hW
  have b0 : Blk W w.heap.size 41 (cs x) := by rw [hW.out]; exact (Blk.new _ _ _).alloc _
  have b1 : Blk W (w.heap.size + 1) 41 (cs zero16) := by rw [hW.out]; exact Blk.new_at (by simp) _ _
  have HB : Below w.heap.size w W := by rw [hW.out]; exact ((Below.refl _ _).alloc (Nat.le_refl _) _).alloc (by simp) _
  have hWs : Hid (W.heap.size = w.heap.size + 2) := by show _ = _; rw [hW.out]; simp
  clear hW c0
  have hbW := hb.below HB hb.lt
  have hrW := hr.below HB
  have hbookW := hbook.below HB
  have d1 : W.cell? ⟨p, 1, none⟩ = some (.slice (some ⟨bK, oK, none⟩) n cK) := hbW.cell 1
  have d2 : W.cell? ⟨p, 2, none⟩ = some (.pointer (some ⟨pb, 0, none⟩)) := hbW.cell 2
  have cv := conv_key bK oK n cK key HN.out hn0 W.drew hrW
  have rg0 : W.rangeAt w.heap.size 0 (x.map bv) := by have := b0.range 0 16; rw [show (cs x).extract 0 (0 + 16) = cs x by rw [Nat.zero_add, ← HX.out, ← cs_size]; simp] at this; exact this
  refine wp_region_held_drew (S := fun w' => w'.cell? ⟨p, 1, none⟩ = some (.slice (some ⟨bK, oK, none⟩) n cK) ∧ w'.cell? ⟨p, 2, none⟩ = some (.pointer (some ⟨pb, 0, none⟩)) ∧ w'.rangeAt w.heap.size 0 (x.map bv) ∧ (convert 22 9 (.slice (some ⟨bK, oK, none⟩) n cK)).run Tryd.prog w' = .ok (.string ⟨key.toArray⟩) w' ∧ w'.there (w.heap.size + 1) 0 16) (by kernel_rfl) ⟨d1, d2, by simpa using rg0, cv, by simpa using b1.there 0 16 (by decide)⟩ (fun hHeld => ?_)
  refine wpAnyH_take (i := 0) (v := ?_) rfl (by kernel_rfl) (by kernel_rfl) (by kernel_rfl) (fun _ _ _ h => h) (Or.inl ⟨by rfl, ?_⟩) (by assumption) ?_
  rotate_left
  · (intro w hSw; go_simp)
    try with_reducible rfl
  simp only [Act.put, List.getElem_toArray, List.getElem_cons_succ, List.getElem_cons_zero, List.setIfInBounds_toArray, List.set_cons_zero, List.set_cons_succ]
  refine wpAnyH_take (i := 1) (v := ?_) rfl (by kernel_rfl) (by kernel_rfl) (by kernel_rfl) (fun _ _ _ h => h) (Or.inl ⟨by rfl, ?_⟩) (by assumption) ?_
  rotate_left
  · (intro w hSw; go_simp)
    try with_reducible rfl
  simp only [Act.put, List.getElem_toArray, List.getElem_cons_succ, List.getElem_cons_zero, List.setIfInBounds_toArray, List.set_cons_zero, List.set_cons_succ]
  refine wpAnyH_take (i := 2) (v := ?_) rfl (by kernel_rfl) (by kernel_rfl) (by kernel_rfl) (fun _ _ _ h => h) (Or.inl ⟨by rfl, ?_⟩) (by assumption) ?_
  rotate_left
  · (intro w hSw; go_simp)
    try with_reducible rfl
  simp only [Act.put, List.getElem_toArray, List.getElem_cons_succ, List.getElem_cons_zero, List.setIfInBounds_toArray, List.set_cons_zero, List.set_cons_succ]
  refine wpAnyH_take (i := 3) (v := ?_) rfl (by kernel_rfl) (by kernel_rfl) (by kernel_rfl) (fun _ _ _ h => h) (Or.inl ⟨by rfl, ?_⟩) (by assumption) ?_
  rotate_left
  · (intro w hSw; go_simp)
    try with_reducible rfl
  simp only [Act.put, List.getElem_toArray, List.getElem_cons_succ, List.getElem_cons_zero, List.setIfInBounds_toArray, List.set_cons_zero, List.set_cons_succ]
  refine wpAnyH_take (i := 4) (v := ?_) rfl (by kernel_rfl) (by kernel_rfl) (by kernel_rfl) (fun _ _ _ h => h) (Or.inl ⟨by rfl, ?_⟩) (by assumption) ?_
  rotate_left
  · (intro w hSw; go_simp)
    try with_reducible rfl
  simp only [Act.put, List.getElem_toArray, List.getElem_cons_succ, List.getElem_cons_zero, List.setIfInBounds_toArray, List.set_cons_zero, List.set_cons_succ]
  refine wpAnyH_take (i := 5) (v := ?_) rfl (by kernel_rfl) (by kernel_rfl) (by kernel_rfl) (fun _ _ _ h => h) (Or.inl ⟨by rfl, ?_⟩) (by assumption) ?_
  rotate_left
  · (intro w hSw; go_simp)
    try with_reducible rfl
  simp only [Act.put, List.getElem_toArray, List.getElem_cons_succ, List.getElem_cons_zero, List.setIfInBounds_toArray, List.set_cons_zero, List.set_cons_succ]
  refine wpAnyH_take (i := 6) (v := ?_) rfl (by kernel_rfl) (by kernel_rfl) (by kernel_rfl) (fun _ _ _ h => h) (Or.inl ⟨by rfl, ?_⟩) (by assumption) ?_
  rotate_left
  · (intro w hSw; go_simp)
    try with_reducible rfl
  simp only [Act.put, List.getElem_toArray, List.getElem_cons_succ, List.getElem_cons_zero, List.setIfInBounds_toArray, List.set_cons_zero, List.set_cons_succ]
  refine wpAnyH_take (i := 7) (v := ?_) rfl (by kernel_rfl) (by kernel_rfl) (by kernel_rfl) (fun _ _ _ h => h) (Or.inl ⟨by rfl, ?_⟩) (by assumption) ?_
  rotate_left
  · (intro w hSw; go_simp)
    try with_reducible rfl
  simp only [Act.put, List.getElem_toArray, List.getElem_cons_succ, List.getElem_cons_zero, List.setIfInBounds_toArray, List.set_cons_zero, List.set_cons_succ]
  refine wpAnyH_take (i := 8) (v := ?_) rfl (by kernel_rfl) (by kernel_rfl) (by kernel_rfl) (fun _ _ _ h => h) (Or.inl ⟨by rfl, ?_⟩) (by assumption) ?_
  rotate_left
  · (intro w hSw; go_simp)
    try with_reducible rfl
  simp only [Act.put, List.getElem_toArray, List.getElem_cons_succ, List.getElem_cons_zero, List.setIfInBounds_toArray, List.set_cons_zero, List.set_cons_succ]
  refine wpAnyH_take (i := 9) (v := _) rfl (by kernel_rfl) (by kernel_rfl) (by kernel_rfl) (fun _ _ _ h => h) (yieldsIf_load_mid (by rfl) _ _ rfl _ _ rfl _ _ (by intro w hSw; (try dsimp only at hSw); go_split_ands; assumption) (by assumption) rfl (by first | assumption | (simp only [*]; done))) (by assumption) ?_
  simp only [Act.put, List.getElem_toArray, List.getElem_cons_succ, List.getElem_cons_zero, List.setIfInBounds_toArray, List.set_cons_zero, List.set_cons_succ]
  refine wpAnyH_take (i := 10) (v := ?_) rfl (by kernel_rfl) (by kernel_rfl) (by kernel_rfl) (fun _ _ _ h => h) (Or.inl ⟨by rfl, ?_⟩) (by assumption) ?_
  rotate_left
  · (intro w hSw; go_simp)
    try with_reducible rfl
  simp only [Act.put, List.getElem_toArray, List.getElem_cons_succ, List.getElem_cons_zero, List.setIfInBounds_toArray, List.set_cons_zero, List.set_cons_succ]
  refine wpAnyH_ready (rs := [11]) (by kernel_rfl) (by simp) ?_
  refine AllReadyH.cons rfl (fun K hK => ?_) AllReadyH.nil
  rw [if_pos (by rfl)]
  go_simp
  have hF0 : ∀ i, F i → i < w.heap.size := by obtain ⟨_, _, _, _, _, _, _, _, _, _, _, _, _, _, h⟩ := hbook; exact h
  have HBW : Hid (Below w.heap.size w W) := HB
  refine (ask_any W.drew hbookW key x HX.out back hmax htm).mono ?_
  rintro e w2 ⟨F', hF', hbk2, hfr, hcase⟩
  have hsW := hWs.out
  have hfr' : Fr F W w2 := ⟨hfr.os, hfr.tape, hfr.output, hfr.size, hfr.block⟩
  have hpl := hb.lt
  have e1 := hbW.fr hfr' hnp
  have e2 := hrW.fr hfr' hnK
  have e3 := b0.fr hfr' (fun h => by have := hF0 _ h; omega)
  have e4 := b1.fr hfr' (fun h => by have := hF0 _ h; omega)
  have hs2 := hfr'.size
  have SX : ∀ w3 : World, Blk w3 p 62 #[.int .i64 3, .slice (some ⟨bK, oK, none⟩) n cK, .pointer (some ⟨pb, 0, none⟩)] → Rd w3 (some ⟨bK, oK, none⟩) key → Blk w3 w.heap.size 41 (cs x) → (∃ c : Array Value, c.size = 16 ∧ Blk w3 (w.heap.size + 1) 41 c) →
      (w3.cell? ⟨p, 1, none⟩ = some (.slice (some ⟨bK, oK, none⟩) n cK) ∧ w3.cell? ⟨p, 2, none⟩ = some (.pointer (some ⟨pb, 0, none⟩)) ∧ w3.rangeAt w.heap.size 0 (x.map bv) ∧ (convert 22 9 (.slice (some ⟨bK, oK, none⟩) n cK)).run Tryd.prog w3 = .ok (.string ⟨key.toArray⟩) w3 ∧ w3.there (w.heap.size + 1) 0 16) := by
    intro w3 a1 a2 a3 ⟨c, a4, a5⟩
    refine ⟨a1.cell 1, a1.cell 2, ?_, conv_key bK oK n cK key HN.out hn0 w3 a2, a5.there 0 16 (by omega)⟩
    have := a3.range 0 16
    rw [show (cs x).extract 0 (0 + 16) = cs x by rw [Nat.zero_add, ← HX.out, ← cs_size]; simp] at this
    exact this
  have fin : ∀ (l : List UInt8), l.length = 16 → ∀ w3, w3 = w2.setRow (w.heap.size + 1) (cs l) → Blk w3 p 62 #[.int .i64 3, .slice (some ⟨bK, oK, none⟩) n cK, .pointer (some ⟨pb, 0, none⟩)] ∧ Rd w3 (some ⟨bK, oK, none⟩) key ∧ Blk w3 w.heap.size 41 (cs x) ∧ Blk w3 (w.heap.size + 1) 41 (cs l) ∧ BookIs w3 F' pb (askP rows tape key x back).2.1 (askP rows tape key x back).2.2 ∧ Fr F w w3 := by
    rintro l hl w3 rfl
    have hg : Fr (fun i => i = w.heap.size + 1) w2 (w2.setRow (w.heap.size + 1) (cs l)) := Fr.setRow (F := fun i => i = w.heap.size + 1) (Fr.refl _ _) (.inl rfl) _
    refine ⟨e1.farRow (by omega), e2.fr hg (fun ad e h => ?_), e3.farRow (by omega), e4.setRow _, hbk2.fr hg (fun i hi h => ?_), ?_⟩
    · injection e with e; subst e; simp only at h; omega
    · rcases hF' i hi with h1 | h1
      · have := hF0 i h1; omega
      · have : W.drew.heap.size = W.heap.size := rfl
        omega
    · exact ((Fr.of_below HBW.out F).trans hfr' (fun i h => .inl h)).setRow (.inr (by omega)) _
  have HF := Lib.hid fin
  have HSX := Lib.hid SX
  have hFF : Hid (∀ i, F' i → F i ∨ w.heap.size ≤ i) := fun i h => by
    rcases hF' i h with h1 | h1
    · exact .inl h1
    · have : W.drew.heap.size = W.heap.size := rfl
      exact .inr (by omega)
  clear fin SX hfr hfr' hbk2 hF' hbookW hrW hbW b0 b1 cv rg0 d1 d2 HB
  rcases hcase with ⟨y, hy, hyl, rfl⟩ | ⟨hy, v, rfl, hv⟩
  · have zy : (Tryd.prog.info? 41).map (·.size) = some (cs y).size := by rw [cs_size, hyl]; exact info16'
    have HYL := Lib.hid hyl
    have HY := Lib.hid hy
    clear hyl hy
    obtain ⟨f1, f2, f3, f4, f5, f6⟩ := HF.out y HYL.out _ rfl
    refine hK.out _ _ (HSX.out w2 e1 e2 e3 ⟨_, by rw [cs_size]; rfl, e4⟩) (fun hHeld2 => ?_)
    clear hK K
    refine wpAnyH_take (i := 12) (v := ?_) rfl (by kernel_rfl) (by kernel_rfl) (by kernel_rfl) (fun _ _ _ h => h) (Or.inl ⟨by rfl, ?_⟩) (by assumption) ?_
    rotate_left
    · (intro w hSw; go_simp)
      try with_reducible rfl
    simp only [Act.put, List.getElem_toArray, List.getElem_cons_succ, List.getElem_cons_zero, List.setIfInBounds_toArray, List.set_cons_zero, List.set_cons_succ]
    refine wpAnyH_take (i := 13) (v := ?_) rfl (by kernel_rfl) (by kernel_rfl) (by kernel_rfl) (fun _ _ _ h => h) (Or.inl ⟨by rfl, ?_⟩) (by assumption) ?_
    rotate_left
    · (intro w hSw; go_simp)
      try with_reducible rfl
    simp only [Act.put, List.getElem_toArray, List.getElem_cons_succ, List.getElem_cons_zero, List.setIfInBounds_toArray, List.set_cons_zero, List.set_cons_succ]
    refine wpAnyH_ready (rs := [14]) (by kernel_rfl) (by simp) ?_
    refine AllReadyH.cons rfl (fun K hK => ?_) AllReadyH.nil
    rw [if_pos (by rfl)]
    refine wp_store_row 41 _ _ rfl (w.heap.size + 1) (cs y) rfl rfl 41 (cs zero16) e4 zy (by rw [cs_size, cs_size, HYL.out]; rfl) (one_cs _) ?_
    simp only [Act.put, List.getElem_toArray, List.getElem_cons_succ, List.getElem_cons_zero, List.setIfInBounds_toArray, List.set_cons_zero, List.set_cons_succ]
    refine hK.out _ _ (HSX.out _ f1 f2 f3 ⟨_, by rw [cs_size, HYL.out], f4⟩) (fun hHeld3 => ?_)
    clear hK K
    refine wpAnyH_take (i := 15) (v := ?_) rfl (by kernel_rfl) (by kernel_rfl) (by kernel_rfl) (fun _ _ _ h => h) (Or.inl ⟨by rfl, ?_⟩) (by assumption) ?_
    rotate_left
    · (intro w hSw; go_simp)
      try with_reducible rfl
    simp only [Act.put, List.getElem_toArray, List.getElem_cons_succ, List.getElem_cons_zero, List.setIfInBounds_toArray, List.set_cons_zero, List.set_cons_succ]
    refine wpAnyH_done (by kernel_rfl) ?_ _
    go_wp2_with fail
    refine bodyPost_ret (results_cellt Tryd.results26 _ _ _ (w.heap.size + 1) (cs y) 41 rfl f4 _ Tryd.underlying41 rfl zy) rfl ?_
    exact ⟨F', hFF.out, f5, f6, .inl ⟨y, HY.out, HYL.out, rfl⟩⟩
  · have zz : (Tryd.prog.info? 41).map (·.size) = some (cs zero16).size := by rw [cs_size]; exact info16'
    have HY := Lib.hid hy
    clear hy
    obtain ⟨f1, f2, f3, f4, f5, f6⟩ := HF.out zero16 rfl _ rfl
    have hvE : ErrIs (w2.setRow (w.heap.size + 1) (cs zero16)) 13 v := by
      cases hv with
      | errno => exact .errno
      | fault g at_ hg =>
        refine .fault g at_ (hg.farRow ?_)
        rintro rfl
        have := hg.symm.trans e4
        simp at this
    refine hK.out _ _ (HSX.out w2 e1 e2 e3 ⟨_, by rw [cs_size]; rfl, e4⟩) (fun hHeld2 => ?_)
    clear hK K
    refine wpAnyH_take (i := 12) (v := ?_) rfl (by kernel_rfl) (by kernel_rfl) (by kernel_rfl) (fun _ _ _ h => h) (Or.inl ⟨by rfl, ?_⟩) (by assumption) ?_
    rotate_left
    · (intro w hSw; go_simp)
      try with_reducible rfl
    simp only [Act.put, List.getElem_toArray, List.getElem_cons_succ, List.getElem_cons_zero, List.setIfInBounds_toArray, List.set_cons_zero, List.set_cons_succ]
    refine wpAnyH_take (i := 13) (v := ?_) rfl (by kernel_rfl) (by kernel_rfl) (by kernel_rfl) (fun _ _ _ h => h) (Or.inl ⟨by rfl, ?_⟩) (by assumption) ?_
    rotate_left
    · (intro w hSw; go_simp)
      try with_reducible rfl
    simp only [Act.put, List.getElem_toArray, List.getElem_cons_succ, List.getElem_cons_zero, List.setIfInBounds_toArray, List.set_cons_zero, List.set_cons_succ]
    refine wpAnyH_ready (rs := [14]) (by kernel_rfl) (by simp) ?_
    refine AllReadyH.cons rfl (fun K hK => ?_) AllReadyH.nil
    rw [if_pos (by rfl)]
    refine wp_store_row 41 _ _ rfl (w.heap.size + 1) (cs zero16) rfl rfl 41 (cs zero16) e4 zz rfl (one_cs _) ?_
    simp only [Act.put, List.getElem_toArray, List.getElem_cons_succ, List.getElem_cons_zero, List.setIfInBounds_toArray, List.set_cons_zero, List.set_cons_succ]
    refine hK.out _ _ (HSX.out _ f1 f2 f3 ⟨_, by rw [cs_size]; rfl, f4⟩) (fun hHeld3 => ?_)
    clear hK K
    refine wpAnyH_take (i := 15) (v := ?_) rfl (by kernel_rfl) (by kernel_rfl) (by kernel_rfl) (fun _ _ _ h => h) (Or.inl ⟨by rfl, ?_⟩) (by assumption) ?_
    rotate_left
    · (intro w hSw; go_simp)
      try with_reducible rfl
    simp only [Act.put, List.getElem_toArray, List.getElem_cons_succ, List.getElem_cons_zero, List.setIfInBounds_toArray, List.set_cons_zero, List.set_cons_succ]
    refine wpAnyH_done (by kernel_rfl) ?_ _
    go_wp2_with fail
    refine bodyPost_ret (results_cellt Tryd.results26 _ _ _ (w.heap.size + 1) (cs zero16) 41 rfl f4 _ Tryd.underlying41 rfl zz) rfl ?_
    exact ⟨F', hFF.out, f5, f6, .inr ⟨HY.out, v, rfl, hvE⟩⟩
end Go.Proofs.YtbmhmohpnhckgaaDoor
