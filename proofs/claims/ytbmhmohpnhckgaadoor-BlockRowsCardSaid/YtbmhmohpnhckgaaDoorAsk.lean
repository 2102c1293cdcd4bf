/- the oracle: sides, taken, draw, ask -/
import Derived.Test.YtbmhmohpnhckgaaDoorBook
import Derived.Test.YtbmhmohpnhckgaaDoorTail
import Derived.Deep.QuietTactic
import Derived.BigQuiet
import Derived.Laws.ResultCell
import Derived.WalkLawsBesides
import Derived.OwnWalk
import Derived.Deep.LoopGhost
import Derived.Test.YtbmhmohpnhckgaaDoorHeld
namespace Go.Proofs.YtbmhmohpnhckgaaDoor
set_option linter.unusedSimpArgs false
open Go.RowKit
def BRow.from_ (r : BRow) (back : Bool) : List UInt8 := if back then r.out else r.inn
def BRow.to_ (r : BRow) (back : Bool) : List UInt8 := if back then r.inn else r.out
def rowA (r : BRow) : Array Value := r.cells.toArray
theorem rowA_size {r : BRow} (h : r.ok) : (rowA r).size = 33 := by simp [rowA, BRow.cells, h.1, h.2]
theorem rowinfo : (Tryd.prog.info? 126).map (·.size) = some 33 := by kernel_rfl
theorem info16' : (Tryd.prog.info? 41).map (·.size) = some 16 := by kernel_rfl
theorem row_in {r : BRow} (h : r.ok) : (rowA r).extract 1 17 = cs r.inn := by
  obtain ⟨h1, h2⟩ := h
  simp [rowA, BRow.cells, cs, h1]
theorem row_out {r : BRow} (h : r.ok) : (rowA r).extract 17 33 = cs r.out := by
  obtain ⟨h1, h2⟩ := h
  simp [rowA, BRow.cells, cs, h1]
  exact List.take_of_length_le (by simp [h2])
set_option maxRecDepth 100000 in
set_option maxHeartbeats 4000000 in
theorem sides_any (r : BRow) (hr : r.ok) (ra : Array Value) (hra : ra = rowA r) (bg : Nat) (back : Bool) (w : World) (hb : w.cell? ⟨bg, 0, none⟩ = some (.bool back)) :
    Calls Tryd.prog 53 #[.agg ra, .pointer (some ⟨bg, 0, none⟩)] w fun e w' => e = .returned (.tuple #[.agg (cs (r.from_ back)), .agg (cs (r.to_ back))]) ∧ Below w.heap.size w w' := by
  have hsz : ra.size = 33 := by rw [hra]; exact rowA_size hr
  have HR := Lib.hid hra
  clear hra
  have hc := fun o1 o2 o3 => cell_alloc (cell_alloc (cell_alloc hb o1) o2) o3
  have u41 := Tryd.underlying41
  have i1 : (Tryd.prog.info? 41).map (·.size) = some (r.inn.map bv).length := by rw [info16', List.length_map, hr.1]
  have i2 : (Tryd.prog.info? 41).map (·.size) = some (r.out.map bv).length := by rw [info16', List.length_map, hr.2]
  have l1 : (r.inn.map bv).length = 16 := by rw [List.length_map, hr.1]
  have l2 : (r.out.map bv).length = 16 := by rw [List.length_map, hr.2]
  have o1 : ∀ v ∈ r.inn.map bv, v.oneCell' = true := by intro v hv; simp only [List.mem_map] at hv; obtain ⟨x, _, rfl⟩ := hv; rfl
  have o2 : ∀ v ∈ r.out.map bv, v.oneCell' = true := by intro v hv; simp only [List.mem_map] at hv; obtain ⟨x, _, rfl⟩ := hv; rfl
  obtain ⟨li, hli⟩ : ∃ li, li = r.inn.map bv := ⟨_, rfl⟩
  obtain ⟨lo, hlo⟩ : ∃ lo, lo = r.out.map bv := ⟨_, rfl⟩
  rw [← hli] at i1 l1 o1
  rw [← hlo] at i2 l2 o2
  have HI := Lib.hid hli
  have HO := Lib.hid hlo
  clear hli hlo
  have e1 : Hid ((ra.extract 1 17).toList = li) := by show _ = _; rw [HR.out, row_in hr, HI.out]; rfl
  have e2 : Hid ((ra.extract 17 33).toList = lo) := by show _ = _; rw [HR.out, row_out hr, HO.out]; rfl
  cases back
  · go_enter Tryd.func53, Tryd.ntmps53
    go_wp2_with fail
    refine wp_name ?_
    intro W hW
    have r1 : W.rangeAt w.heap.size 1 li := by
      have h : Blk W w.heap.size 126 ra := by rw [hW.out]; exact ((Blk.new _ _ _).alloc _).alloc _
      have := h.range 1 16
      rwa [show 1 + 16 = 17 from rfl, e1.out] at this
    have r2 : W.rangeAt w.heap.size 17 lo := by
      have h : Blk W w.heap.size 126 ra := by rw [hW.out]; exact ((Blk.new _ _ _).alloc _).alloc _
      have := h.range 17 16
      rwa [show 17 + 16 = 33 from rfl, e2.out] at this
    have t1 : W.there (w.heap.size + 1) 0 16 := by rw [hW.out]; exact ((Blk.new_at (by simp) _ _).alloc _).there 0 16 (by simp)
    have t2 : W.there (w.heap.size + 1 + 1) 0 16 := by rw [hW.out]; exact (Blk.new_at (by simp) _ _).there 0 16 (by simp)
    have HB : Below w.heap.size w W := by rw [hW.out]; exact (((Below.refl _ _).alloc (Nat.le_refl _) _).alloc (by simp) _).alloc (by simp; omega) _
    clear hW hc
    refine wp_region_held_drew (S := fun w' => w'.rangeAt w.heap.size 1 li ∧ w'.rangeAt w.heap.size 17 lo ∧ w'.there (w.heap.size + 1) 0 16 ∧ w'.there (w.heap.size + 1 + 1) 0 16) (by kernel_rfl) (by go_keep_ranges) (fun hHeld => ?_)
    refine wpAnyH_take (i := 0) (v := ?_) rfl (by kernel_rfl) (by kernel_rfl) (by kernel_rfl) (fun _ _ _ h => h) (Or.inl ⟨by rfl, ?_⟩) (by assumption) ?_
    rotate_left
    · (intro w hSw; go_simp)
      try with_reducible rfl
    simp only [Act.put, List.getElem_toArray, List.getElem_cons_succ, List.getElem_cons_zero, List.setIfInBounds_toArray, List.set_cons_zero, List.set_cons_succ]
    refine wpAnyH_take (i := 1) (v := _) rfl (by kernel_rfl) (by kernel_rfl) (by kernel_rfl) (fun _ _ _ h => h) (yieldsIf_load_mid (by rfl) _ _ rfl _ _ rfl _ _ (by intro w hSw; (try dsimp only at hSw); go_split_ands; assumption) (by assumption) rfl (by first | assumption | (simp only [*]; done))) (by assumption) ?_
    simp only [Act.put, List.getElem_toArray, List.getElem_cons_succ, List.getElem_cons_zero, List.setIfInBounds_toArray, List.set_cons_zero, List.set_cons_succ]
    refine wpAnyH_take (i := 2) (v := ?_) rfl (by kernel_rfl) (by kernel_rfl) (by kernel_rfl) (fun _ _ _ h => h) (Or.inl ⟨by rfl, ?_⟩) (by assumption) ?_
    rotate_left
    · (intro w hSw; go_simp)
      try with_reducible rfl
    simp only [Act.put, List.getElem_toArray, List.getElem_cons_succ, List.getElem_cons_zero, List.setIfInBounds_toArray, List.set_cons_zero, List.set_cons_succ]
    refine wpAnyH_take (i := 3) (v := _) rfl (by kernel_rfl) (by kernel_rfl) (by kernel_rfl) (fun _ _ _ h => h) (yieldsIf_load_mid (by rfl) _ _ rfl _ _ rfl _ _ (by intro w hSw; (try dsimp only at hSw); go_split_ands; assumption) (by assumption) rfl (by first | assumption | (simp only [*]; done))) (by assumption) ?_
    simp only [Act.put, List.getElem_toArray, List.getElem_cons_succ, List.getElem_cons_zero, List.setIfInBounds_toArray, List.set_cons_zero, List.set_cons_succ]
    refine wpAnyH_ready (rs := [4]) (by kernel_rfl) (by simp) ?_
    refine AllReadyH.cons rfl (fun K hK => ?_) AllReadyH.nil
    rw [if_pos (by rfl)]
    refine wp_store_mid _ _ _ rfl _ _ (List.toArray _) rfl rfl (by (go_split_ands; first | assumption | (simp only [List.size_toArray, *] <;> assumption))) (by (first | assumption | (simp only [List.size_toArray] <;> assumption) | (simp only [List.size_toArray, *]))) (all_oneCell_toArray (by assumption)) ?_
    simp only [Act.put, List.getElem_toArray, List.getElem_cons_succ, List.getElem_cons_zero, List.setIfInBounds_toArray, List.set_cons_zero, List.set_cons_succ, List.toList_toArray]
    refine hK.out _ _ ?_ (fun hHeld => ?_)
    · try dsimp only
      go_keep_ranges
    clear hK K
    refine wpAnyH_ready (rs := [5]) (by kernel_rfl) (by simp) ?_
    refine AllReadyH.cons rfl (fun K hK => ?_) AllReadyH.nil
    rw [if_pos (by rfl)]
    refine wp_store_mid _ _ _ rfl _ _ (List.toArray _) rfl rfl (by (go_split_ands; first | assumption | (simp only [List.size_toArray, *] <;> assumption))) (by (first | assumption | (simp only [List.size_toArray] <;> assumption) | (simp only [List.size_toArray, *]))) (all_oneCell_toArray (by assumption)) ?_
    simp only [Act.put, List.getElem_toArray, List.getElem_cons_succ, List.getElem_cons_zero, List.setIfInBounds_toArray, List.set_cons_zero, List.set_cons_succ, List.toList_toArray]
    refine hK.out _ _ ?_ (fun hHeld => ?_)
    · try dsimp only
      go_keep_ranges
    clear hK K
    refine wpAnyH_done (by kernel_rfl) ?_ _
    go_wp2
    refine bodyPost_ret (results_cell2 Tryd.results53 _ _ _ (w.heap.size + 1) (w.heap.size + 1 + 1) li lo rfl rfl _ _ ?_ ?_ u41 rfl i1 u41 rfl i2) rfl ?_
    · refine World.rangeAt_setCells_apart (World.rangeAt_setCells_same _ _ _ _ ?_) _ _ _ (.inl (by omega))
      rw [l1]; simpa using t1
    · refine World.rangeAt_setCells_same _ _ _ _ ?_
      rw [l2]; exact World.there_setCells (by simpa using t2) _ _ _
    refine ⟨?_, below_setCells (by omega) _ _ (below_setCells (by omega) _ _ HB.drew)⟩
    rw [HI.out, HO.out]; rfl
  · go_enter Tryd.func53, Tryd.ntmps53
    go_wp2_with fail
    refine wp_name ?_
    intro W hW
    have r1 : W.rangeAt w.heap.size 1 li := by
      have h : Blk W w.heap.size 126 ra := by rw [hW.out]; exact ((Blk.new _ _ _).alloc _).alloc _
      have := h.range 1 16
      rwa [show 1 + 16 = 17 from rfl, e1.out] at this
    have r2 : W.rangeAt w.heap.size 17 lo := by
      have h : Blk W w.heap.size 126 ra := by rw [hW.out]; exact ((Blk.new _ _ _).alloc _).alloc _
      have := h.range 17 16
      rwa [show 17 + 16 = 33 from rfl, e2.out] at this
    have t1 : W.there (w.heap.size + 1) 0 16 := by rw [hW.out]; exact ((Blk.new_at (by simp) _ _).alloc _).there 0 16 (by simp)
    have t2 : W.there (w.heap.size + 1 + 1) 0 16 := by rw [hW.out]; exact (Blk.new_at (by simp) _ _).there 0 16 (by simp)
    have HB : Below w.heap.size w W := by rw [hW.out]; exact (((Below.refl _ _).alloc (Nat.le_refl _) _).alloc (by simp) _).alloc (by simp; omega) _
    clear hW hc
    refine wp_region_held_drew (S := fun w' => w'.rangeAt w.heap.size 1 li ∧ w'.rangeAt w.heap.size 17 lo ∧ w'.there (w.heap.size + 1) 0 16 ∧ w'.there (w.heap.size + 1 + 1) 0 16) (by kernel_rfl) (by go_keep_ranges) (fun hHeld => ?_)
    refine wpAnyH_take (i := 0) (v := ?_) rfl (by kernel_rfl) (by kernel_rfl) (by kernel_rfl) (fun _ _ _ h => h) (Or.inl ⟨by rfl, ?_⟩) (by assumption) ?_
    rotate_left
    · (intro w hSw; go_simp)
      try with_reducible rfl
    simp only [Act.put, List.getElem_toArray, List.getElem_cons_succ, List.getElem_cons_zero, List.setIfInBounds_toArray, List.set_cons_zero, List.set_cons_succ]
    refine wpAnyH_take (i := 1) (v := _) rfl (by kernel_rfl) (by kernel_rfl) (by kernel_rfl) (fun _ _ _ h => h) (yieldsIf_load_mid (by rfl) _ _ rfl _ _ rfl _ _ (by intro w hSw; (try dsimp only at hSw); go_split_ands; assumption) (by assumption) rfl (by first | assumption | (simp only [*]; done))) (by assumption) ?_
    simp only [Act.put, List.getElem_toArray, List.getElem_cons_succ, List.getElem_cons_zero, List.setIfInBounds_toArray, List.set_cons_zero, List.set_cons_succ]
    refine wpAnyH_take (i := 2) (v := ?_) rfl (by kernel_rfl) (by kernel_rfl) (by kernel_rfl) (fun _ _ _ h => h) (Or.inl ⟨by rfl, ?_⟩) (by assumption) ?_
    rotate_left
    · (intro w hSw; go_simp)
      try with_reducible rfl
    simp only [Act.put, List.getElem_toArray, List.getElem_cons_succ, List.getElem_cons_zero, List.setIfInBounds_toArray, List.set_cons_zero, List.set_cons_succ]
    refine wpAnyH_take (i := 3) (v := _) rfl (by kernel_rfl) (by kernel_rfl) (by kernel_rfl) (fun _ _ _ h => h) (yieldsIf_load_mid (by rfl) _ _ rfl _ _ rfl _ _ (by intro w hSw; (try dsimp only at hSw); go_split_ands; assumption) (by assumption) rfl (by first | assumption | (simp only [*]; done))) (by assumption) ?_
    simp only [Act.put, List.getElem_toArray, List.getElem_cons_succ, List.getElem_cons_zero, List.setIfInBounds_toArray, List.set_cons_zero, List.set_cons_succ]
    refine wpAnyH_ready (rs := [4]) (by kernel_rfl) (by simp) ?_
    refine AllReadyH.cons rfl (fun K hK => ?_) AllReadyH.nil
    rw [if_pos (by rfl)]
    refine wp_store_mid _ _ _ rfl _ _ (List.toArray _) rfl rfl (by (go_split_ands; first | assumption | (simp only [List.size_toArray, *] <;> assumption))) (by (first | assumption | (simp only [List.size_toArray] <;> assumption) | (simp only [List.size_toArray, *]))) (all_oneCell_toArray (by assumption)) ?_
    simp only [Act.put, List.getElem_toArray, List.getElem_cons_succ, List.getElem_cons_zero, List.setIfInBounds_toArray, List.set_cons_zero, List.set_cons_succ, List.toList_toArray]
    refine hK.out _ _ ?_ (fun hHeld => ?_)
    · try dsimp only
      go_keep_ranges
    clear hK K
    refine wpAnyH_ready (rs := [5]) (by kernel_rfl) (by simp) ?_
    refine AllReadyH.cons rfl (fun K hK => ?_) AllReadyH.nil
    rw [if_pos (by rfl)]
    refine wp_store_mid _ _ _ rfl _ _ (List.toArray _) rfl rfl (by (go_split_ands; first | assumption | (simp only [List.size_toArray, *] <;> assumption))) (by (first | assumption | (simp only [List.size_toArray] <;> assumption) | (simp only [List.size_toArray, *]))) (all_oneCell_toArray (by assumption)) ?_
    simp only [Act.put, List.getElem_toArray, List.getElem_cons_succ, List.getElem_cons_zero, List.setIfInBounds_toArray, List.set_cons_zero, List.set_cons_succ, List.toList_toArray]
    refine hK.out _ _ ?_ (fun hHeld => ?_)
    · try dsimp only
      go_keep_ranges
    clear hK K
    refine wpAnyH_done (by kernel_rfl) ?_ _
    go_wp2
    refine bodyPost_ret (results_cell2 Tryd.results53 _ _ _ (w.heap.size + 1) (w.heap.size + 1 + 1) lo li rfl rfl _ _ ?_ ?_ u41 rfl i2 u41 rfl i1) rfl ?_
    · refine World.rangeAt_setCells_apart (World.rangeAt_setCells_same _ _ _ _ ?_) _ _ _ (.inl (by omega))
      rw [l2]; simpa using t1
    · refine World.rangeAt_setCells_same _ _ _ _ ?_
      rw [l1]; exact World.there_setCells (by simpa using t2) _ _ _
    refine ⟨?_, below_setCells (by omega) _ _ (below_setCells (by omega) _ _ HB.drew)⟩
    rw [HI.out, HO.out]; rfl
theorem eq16 (d : Nat) (x y : List UInt8) (hx : x.length = 16) (hy : y.length = 16) (w : World) : (Op.equalIn (d + 2) 41 (.agg (cs x)) (.agg (cs y))).run Tryd.prog w = .ok (x == y) w :=
  run_equalIn_bytes w d 41 5 16 Tryd.underlying41 Tryd.underlying5 (fun w => by
    obtain ⟨i, hi, hz, hs, hb⟩ := info_parts byteinfo
    simp [sizeOf, typeInfo, hi, hs]) x y hx hy
theorem eql16 (x y : List UInt8) (hx : x.length = 16) (hy : y.length = 16) (w : World) : (binOp .eql 41 (.agg (cs x)) (.agg (cs y))).run Tryd.prog w = .ok (.bool (x == y)) w := by
  rw [run_eql_struct, eq16 9998 x y hx hy]; rfl
set_option maxRecDepth 100000 in
set_option maxHeartbeats 4000000 in
theorem taken_any (r : BRow) (hr : r.ok) (ra : Array Value) (hra : ra = rowA r) (ps pk py bg : Nat) (back : Bool) (key y : List UInt8) (hy : y.length = 16) (w : World)
    (hs : w.cell? ⟨ps, 0, none⟩ = some (.func (.func 53) #[] #[.pointer (some ⟨bg, 0, none⟩)])) (hb : w.cell? ⟨bg, 0, none⟩ = some (.bool back)) (hk : w.cell? ⟨pk, 0, none⟩ = some (.string ⟨key.toArray⟩)) (hyb : Blk w py 41 (cs y)) :
    Calls Tryd.prog 57 #[.agg ra, .pointer (some ⟨ps, 0, none⟩), .pointer (some ⟨pk, 0, none⟩), .pointer (some ⟨py, 0, none⟩)] w fun e w' => e = .returned (.bool (r.key == key && r.to_ back == y)) ∧ Below w.heap.size w w' := by
  have hsz : ra.size = 33 := by rw [hra]; exact rowA_size hr
  have HR := Lib.hid hra
  clear hra
  have hs1 := fun o1 => cell_alloc hs o1
  have hb1 := fun o1 => cell_alloc hb o1
  have hk1 := cell_alloc hk (.cells ra 126)
  have hy1 := hyb.alloc (.cells ra 126)
  have rsz : (Tryd.prog.info? 126).map (·.size) = some ra.size := by rw [hsz]; exact rowinfo
  have fsz : (r.from_ back).length = 16 := by unfold BRow.from_; split <;> first | exact hr.1 | exact hr.2
  have tsz : (r.to_ back).length = 16 := by unfold BRow.to_; split <;> first | exact hr.1 | exact hr.2
  have FS := Lib.hid fsz
  have TS := Lib.hid tsz
  clear fsz tsz
  go_enter Tryd.func57, Tryd.ntmps57
  go_wp2_with (first
    | (refine wpList_load_row rfl 126 _ rfl w.heap.size rfl 126 ra (0, 0) _ (Blk.new _ _ _) Tryd.underlying126 rfl rsz ?_)
    | (go_at_call 53; refine (sides_any r hr ra HR.out bg back _ (hb1 _)).mono ?_; rintro e w1 ⟨rfl, hB1⟩)
    | (refine wpList_store_blk rfl 41 _ _ rfl _ (cs (r.from_ back)) rfl rfl 41 _ ((Blk.new _ _ _).alloc _) (by rw [cs_size, FS.out]; exact info16') (by rw [cs_size, FS.out]; rfl) (one_cs _) ?_)
    | (refine wpList_store_blk rfl 41 _ _ rfl _ (cs (r.to_ back)) rfl rfl 41 _ ((Blk.new_at (by simp) _ _).farRow (by omega)) (by rw [cs_size, TS.out]; exact info16') (by rw [cs_size, TS.out]; rfl) (one_cs _) ?_; refine wpList_name ?_; intro W hW; refine lock_stop ?_))
  have hs0 := hB1.size
  have hz := World.size_alloc w (.cells ra 126)
  have HB0 : Below w.heap.size w w1 := ((Below.refl _ _).alloc (Nat.le_refl _) _).trans (hB1.mono (by simp))
  have HB : Below w.heap.size w W := by
    rw [hW.out]; exact below_row (below_row ((HB0.alloc HB0.size _).alloc (by simp; omega) _) (by omega) _) (by omega) _
  have HC : Below w1.heap.size w1 W := by
    rw [hW.out]; exact below_row (below_row (((Below.refl _ _).alloc (Nat.le_refl _) _).alloc (by simp) _) (by omega) _) (by omega) _
  have q1 : W.cell? ⟨w.heap.size, 0, none⟩ = some (.string ⟨r.key.toArray⟩) := by
    have h0 : Blk W w.heap.size 126 ra := ((Blk.new w _ _).below hB1 (by simp)).below HC (by omega)
    rw [h0.cell 0, HR.out]; rfl
  have q2 := cell_below hk HB
  have q3 : Blk W (w1.heap.size + 1) 41 (cs (r.to_ back)) := by rw [hW.out]; exact ((Blk.new_at (by simp) _ _).farRow (by omega)).setRow _
  have q4 : Blk W py 41 (cs y) := hyb.below HB hyb.lt
  have z3 : (Tryd.prog.info? 41).map (·.size) = some (cs (r.to_ back)).size := by rw [cs_size, TS.out]; exact info16'
  have z4 : (Tryd.prog.info? 41).map (·.size) = some (cs y).size := by rw [cs_size, hy]; exact info16'
  clear hW
  have qe := eql16 (r.to_ back) y TS.out hy
  clear hy
  refine lock_go ?_
  by_cases hkey : r.key = key
  · go_wp2_with (first
      | (refine wpList_load_g (by rfl) 41 _ rfl _ _ rfl _ _ q3 Tryd.underlying41 rfl z3 ?_)
      | (refine wpList_load_g (by rfl) 41 _ rfl _ _ rfl _ _ q4 Tryd.underlying41 rfl z4 ?_))
    go_ret
    refine ⟨?_, HB⟩
    simp [hkey]
  · go_wp2_with fail
    go_ret
    refine ⟨?_, HB⟩
    simp [hkey]
theorem flat_get {α β : Type} (k : Nat) (f : α → List β) : ∀ (l : List α), (∀ x ∈ l, (f x).length = k) → ∀ (i : Nat) (hi : i < l.length) (j : Nat), j < k → (l.flatMap f)[i * k + j]? = (f l[i])[j]?
  | [], _, i, hi, _, _ => by simp at hi
  | x :: l, h, 0, _, j, hj => by
    have hx := h x (by simp)
    rw [List.flatMap_cons, Nat.zero_mul, Nat.zero_add, List.getElem?_append_left (by omega)]; rfl
  | x :: l, h, i + 1, hi, j, hj => by
    have hx := h x (by simp)
    have e : (i + 1) * k + j = (f x).length + (i * k + j) := by rw [hx, Nat.add_mul, Nat.one_mul]; omega
    rw [List.flatMap_cons, e, List.getElem?_append_right (by omega), Nat.add_sub_cancel_left]
    exact flat_get k f l (fun y hy => h y (by simp [hy])) i (by simpa using hi) j hj
theorem cells_len {r : BRow} (h : r.ok) : r.cells.length = 33 := by simp [BRow.cells, h.1, h.2]
theorem row_at {w : World} {R : Option Addr} {cR : Nat} {rows : List BRow} (h : w.ownsRow 0 126 33 (.slice R rows.length cR) rows.length (rows.flatMap BRow.cells)) (hok : ∀ r ∈ rows, r.ok) (i : Nat) (hi : i < rows.length) :
    ∃ g, R = some ⟨g, 0, none⟩ ∧ w.rangeAt g (i * 33) rows[i].cells ∧ rows.length ≤ cR := by
  rcases h.2 with ⟨_, h0⟩ | ⟨g, cap, cur, hv, _, hg, hnc, _, hs, ht⟩
  · omega
  · injection hv with hA _ hcc
    refine ⟨g, hA, fun j v hv => ?_, by omega⟩
    have hl := cells_len (hok _ (List.getElem_mem hi))
    have hj : j < 33 := by
      have := (List.getElem?_eq_some_iff.1 hv).1
      omega
    rw [cell_of_row w g (i * 33 + j) cur 126 (0, 0) hg]
    have h2 := flat_get 33 BRow.cells rows (fun r hr => cells_len (hok r hr)) i hi j hj
    rw [hv, ← ht, List.getElem?_take_of_lt (by omega)] at h2
    simpa using h2
/-- is y one of the key's answers? -/
def takenP (rows : List BRow) (key : List UInt8) (back : Bool) (y : List UInt8) : Bool := rows.any fun r => r.key == key && r.to_ back == y
set_option maxRecDepth 100000 in
set_option maxHeartbeats 4000000 in
theorem index_any (rows : List BRow) (hok : ∀ r ∈ rows, r.ok) (R : Option Addr) (n cR : Nat) (hn : n = rows.length) (ps pk py bg : Nat) (back : Bool) (key y : List UInt8) (hy : y.length = 16) (w : World) (hR : w.ownsRow 0 126 33 (.slice R rows.length cR) rows.length (rows.flatMap BRow.cells))
    (hs : w.cell? ⟨ps, 0, none⟩ = some (.func (.func 53) #[] #[.pointer (some ⟨bg, 0, none⟩)])) (hb : w.cell? ⟨bg, 0, none⟩ = some (.bool back)) (hk : w.cell? ⟨pk, 0, none⟩ = some (.string ⟨key.toArray⟩)) (hyb : Blk w py 41 (cs y)) (hmax : rows.length ≤ 140737488355328) :
    Calls Tryd.prog 76 #[.slice R n cR, .func (.func 57) #[] #[.pointer (some ⟨ps, 0, none⟩), .pointer (some ⟨pk, 0, none⟩), .pointer (some ⟨py, 0, none⟩)]] w fun e w' => ∃ j : Int, e = .returned (.int .i64 j) ∧ (decide (0 ≤ j)) = takenP rows key back y ∧ Below w.heap.size w w' := by
  have HN := Lib.hid hn
  have hmax' : n ≤ 140737488355328 := by omega
  clear hn
  go_enter Tryd.func76, Tryd.ntmps76
  go_wp2
  go_loopg [5, 8] n (fun gq s5 s8 wr => ∃ k : Nat, k ≤ n ∧ gq = n - k ∧ s8 = .int .i64 (k : Int) ∧ Below w.heap.size w wr ∧ Hid (∀ i (hi : i < rows.length), i < k → (rows[i].key == key && rows[i].to_ back == y) = false))
  case atStart => exact ⟨0, by omega, by omega, rfl, Below.refl _ _, fun _ _ h => by omega⟩
  case round =>
    obtain ⟨k, hk2, hgk, rfl, hB, hno⟩ := hrel
    have HG := Lib.hid hgk
    clear hgk
    by_cases hlt : k < n
    · obtain ⟨g, rfl, hrg, hcap⟩ := row_at (w := wr) (ownsRow_at hR (fun k _ hk => hB.block k hk)) hok k (by rw [← HN.out]; exact hlt)
      have hkr : k < rows.length := by rw [← HN.out]; exact hlt
      obtain ⟨r, hr⟩ : ∃ r, r = rows[k]'hkr := ⟨_, rfl⟩
      rw [← hr] at hrg
      have hrok : r.ok := by rw [hr]; exact hok _ (List.getElem_mem hkr)
      have hstep : Hid ((r.key == key && r.to_ back == y) = false → ∀ i (hi : i < rows.length), i < k + 1 → (rows[i].key == key && rows[i].to_ back == y) = false) := fun h i hi hi2 => by
        by_cases e : i = k
        · subst e; rw [← hr]; exact h
        · exact hno.out i hi (by omega)
      have hhit : Hid ((r.key == key && r.to_ back == y) = true → takenP rows key back y = true) := fun h => by
        unfold takenP
        rw [List.any_eq_true]
        exact ⟨r, by rw [hr]; exact List.getElem_mem hkr, h⟩
      clear hr
      have rsz : (Tryd.prog.info? 126).map (·.size) = some r.cells.length := by rw [cells_len hrok]; exact rowinfo
      go_wp2_with (first
        | (refine wpList_load_mid rfl 126 _ rfl g (k * 33) rfl r.cells _ hrg Tryd.underlying126 rfl rsz ?_)
        | (go_at_call 57; refine (taken_any r hrok _ rfl ps pk py bg back key y hy _ (cell_below hs hB) (cell_below hb hB) (cell_below hk hB) (hyb.below hB hyb.lt)).mono ?_; rintro e w1 ⟨rfl, hB1⟩; refine lock_stop ?_))
      refine lock_go ?_
      have hB2 : Below w.heap.size w w1 := hB.trans (hB1.mono hB.size)
      clear hB1
      cases ht : (r.key == key && r.to_ back == y)
      · have hno2 := Lib.hid (hstep.out ht)
        clear ht
        go_wp2_with fail
        go_roundg (n - (k + 1))
        case measure => have := HG.out; omega
        case rel => exact ⟨k + 1, by omega, rfl, by go_num, hB2, hno2⟩
      · have hh := Lib.hid (hhit.out ht)
        clear ht
        go_wp2_with fail
        go_ret
        exact ⟨(k : Int), rfl, by rw [hh.out]; simp, hB2⟩
    · have hkn : k = n := by omega
      subst hkn
      have hh : Hid (takenP rows key back y = false) := by
        show _ = _
        unfold takenP
        rw [List.any_eq_false]
        intro r hr
        obtain ⟨i, hi, rfl⟩ := List.getElem_of_mem hr
        simp [hno.out i hi (by rw [HN.out]; exact hi)]
      go_wp2_with fail
      go_ret
      exact ⟨-1, rfl, by rw [hh.out]; simp, hB⟩
set_option maxRecDepth 100000 in
set_option maxHeartbeats 1000000 in
theorem contains_any (rows : List BRow) (hok : ∀ r ∈ rows, r.ok) (R : Option Addr) (n cR : Nat) (hn : n = rows.length) (ps pk py bg : Nat) (back : Bool) (key y : List UInt8) (hy : y.length = 16) (w : World) (hR : w.ownsRow 0 126 33 (.slice R rows.length cR) rows.length (rows.flatMap BRow.cells))
    (hs : w.cell? ⟨ps, 0, none⟩ = some (.func (.func 53) #[] #[.pointer (some ⟨bg, 0, none⟩)])) (hb : w.cell? ⟨bg, 0, none⟩ = some (.bool back)) (hk : w.cell? ⟨pk, 0, none⟩ = some (.string ⟨key.toArray⟩)) (hyb : Blk w py 41 (cs y)) (hmax : rows.length ≤ 140737488355328) :
    Calls Tryd.prog 56 #[.slice R n cR, .func (.func 57) #[] #[.pointer (some ⟨ps, 0, none⟩), .pointer (some ⟨pk, 0, none⟩), .pointer (some ⟨py, 0, none⟩)]] w fun e w' => e = .returned (.bool (takenP rows key back y)) ∧ Below w.heap.size w w' := by
  have HN := Lib.hid hn
  clear hn
  go_enter Tryd.func56, Tryd.ntmps56
  go_wp2_with fail
  refine (index_any rows hok R n cR HN.out ps pk py bg back key y hy w hR hs hb hk hyb hmax).mono ?_
  rintro e w1 ⟨j, rfl, hj, hB⟩
  have HJ := Lib.hid hj
  clear hj
  go_wp2_with fail
  go_ret
  exact ⟨by rw [← HJ.out]; rfl, hB⟩
theorem below_mid {B : Nat} {a b c : World} (h : Below B a b) (k : Below b.heap.size b c) (hB : B ≤ b.heap.size) : Below B a c := h.trans (k.mono hB)
set_option maxRecDepth 100000 in
set_option maxHeartbeats 1000000 in
theorem ask2_any (rows : List BRow) (hok : ∀ r ∈ rows, r.ok) (R : Option Addr) (n cR : Nat) (hn : n = rows.length) (p pb ps pk bg : Nat) (tp : Value) (back : Bool) (key y : List UInt8) (hy : y.length = 16) (w : World) (hR : w.ownsRow 0 126 33 (.slice R rows.length cR) rows.length (rows.flatMap BRow.cells))
    (hp : Blk w p 76 #[.slice R n cR, tp]) (hpb : w.cell? ⟨pb, 0, none⟩ = some (.pointer (some ⟨p, 0, none⟩))) (hs : w.cell? ⟨ps, 0, none⟩ = some (.func (.func 53) #[] #[.pointer (some ⟨bg, 0, none⟩)])) (hb : w.cell? ⟨bg, 0, none⟩ = some (.bool back)) (hk : w.cell? ⟨pk, 0, none⟩ = some (.string ⟨key.toArray⟩)) (hmax : rows.length ≤ 140737488355328) :
    Calls Tryd.prog 55 #[.agg (cs y), .pointer (some ⟨pb, 0, none⟩), .pointer (some ⟨ps, 0, none⟩), .pointer (some ⟨pk, 0, none⟩)] w fun e w' => e = .returned (.bool (takenP rows key back y)) ∧ Below w.heap.size w w' := by
  have HN := Lib.hid hn
  clear hn
  have c1 := cell_alloc hpb (.cells (cs y) 41)
  have c2 := cell_alloc (w := w) (b := p) (o := 0) (v := .slice R n cR) (by rw [hp.cell 0]; rfl) (.cells (cs y) 41)
  go_enter Tryd.func55, Tryd.ntmps55
  go_wp2_with fail
  have HB := (Below.refl w.heap.size w).alloc (Nat.le_refl _) (.cells (cs y) 41)
  refine (contains_any rows hok R n cR HN.out ps pk w.heap.size bg back key y hy _ (ownsRow_at hR (fun k _ hk => HB.block k hk)) (cell_alloc hs _) (cell_alloc hb _) (cell_alloc hk _) (Blk.new _ _ _) hmax).mono ?_
  rintro e w1 ⟨rfl, hB⟩
  go_wp2_with fail
  go_ret
  exact ⟨rfl, below_mid HB hB (by simp)⟩
set_option maxRecDepth 100000 in
theorem short_any (tp : Nat) (T : Option Addr) (cT n : Nat) (w : World) (ht : Blk w tp 78 #[.slice T n cT]) :
    Calls Tryd.prog 81 #[.pointer (some ⟨tp, 0, none⟩)] w fun e w' => ∃ v, e = .returned v ∧ ErrIs w' 13 v ∧ (∃ g, v = .iface 159 (.pointer (some ⟨g, 0, none⟩)) ∧ w.heap.size ≤ g) ∧ Below w.heap.size w w' := by
  have c0 := ht.cell 0
  go_enter Tryd.func81, Tryd.ntmps81
  go_wp2_with fail
  go_ret
  exact ⟨_, rfl, .fault _ _ (Blk.new _ _ _), ⟨_, rfl, Nat.le_refl _⟩, (Below.refl _ _).alloc (Nat.le_refl _) _⟩
set_option maxRecDepth 100000 in
set_option maxHeartbeats 1000000 in
theorem take_short (tp : Nat) (T : Option Addr) (cT n : Nat) (w : World) (ht : Blk w tp 78 #[.slice T n cT]) (hn : n < 16) :
    Calls Tryd.prog 75 #[.pointer (some ⟨tp, 0, none⟩), .int .i64 16] w fun e w' => ∃ v, e = .returned (.tuple #[.slice none 0 0, v]) ∧ ErrIs w' 13 v ∧ (∃ g, v = .iface 159 (.pointer (some ⟨g, 0, none⟩)) ∧ w.heap.size ≤ g) ∧ Below w.heap.size w w' := by
  have c0 := ht.cell 0
  go_enter Tryd.func75, Tryd.ntmps75
  go_wp2_with fail
  refine (short_any tp T cT n _ ht).mono ?_
  rintro e w1 ⟨v, rfl, hv, hg, hB⟩
  go_wp2_with fail
  go_ret2
  exact ⟨v, rfl, hv, hg, hB⟩
/-- what a draw of 16 leaves -/
def Took (w w' : World) (tp : Nat) (T : Option Addr) (tape : List UInt8) (A : Option Addr) (c : Nat) : Prop :=
  Own w' w.heap.size A c (tape.take 16) ∧ w.grownBy w' (some tp) ∧ ∃ T' cT', TapeAt w' tp T' cT' (tape.drop 16) ∧ T'.map (·.block) = T.map (·.block)
theorem took_end {w w1 : World} {tp b o o2 n cT c2 : Nat} {tape : List UInt8} {A : Option Addr} {c : Nat} (hb : Blk w tp 78 #[.slice (some ⟨b, o, none⟩) n cT]) (hr : Rd w (some ⟨b, o, none⟩) tape) (hN : n = tape.length) (hB : Below w.heap.size w w1) (hown : Own w1 w.heap.size A c (tape.take 16))
    (ho : n ≤ 16 ∨ o2 = o + 16) (hc : n - 16 ≤ c2) : Took w (w1.setCell ⟨tp, 0, none⟩ (.slice (some ⟨b, o2, none⟩) (n - 16) c2)) tp (some ⟨b, o, none⟩) tape A c := by
  have hl : (tape.drop 16).length = n - 16 := by rw [List.length_drop, hN]
  have htp := hb.lt
  refine ⟨hown.far ?_ _, (only_of_below hB (some tp)) |> fun h => only_setCell h (.inl rfl) _, some ⟨b, o2, none⟩, c2, ⟨?_, ?_, by rw [hl]; exact hc⟩, rfl⟩
  · intro e
    have := hown.lt tp e
    omega
  · have := (hb.below hB hb.lt).set_ 0 (.slice (some ⟨b, o2, none⟩) (n - 16) c2)
    rw [hl]
    simpa using this
  · intro hpos
    rw [hl] at hpos
    obtain rfl : o2 = o + 16 := by omega
    obtain ⟨ad, e, hlt, _, hcc⟩ := hr (by omega)
    injection e with e; subst e
    simp only at hlt
    refine ⟨_, rfl, ?_, rfl, fun j x hx => ?_⟩
    · have := hB.size; simp [World.setCell]; omega
    · rw [List.getElem?_drop] at hx
      have h1 := hcc (16 + j) x hx
      rw [add_mk] at h1 ⊢
      have h2 := cell_below h1 hB
      rw [World.cell?_setCell_other _ _ _ _ (by simp)]
      rw [show o + 16 + j = o + (16 + j) by omega]
      exact h2
set_option maxRecDepth 100000 in
set_option maxHeartbeats 1000000 in
theorem take_any (tp : Nat) (T : Option Addr) (cT : Nat) (tape : List UInt8) (w : World) (ht : TapeAt w tp T cT tape) (hn : 16 ≤ tape.length) (hmax : tape.length ≤ 65536) :
    Calls Tryd.prog 75 #[.pointer (some ⟨tp, 0, none⟩), .int .i64 16] w fun e w' => ∃ A c, e = .returned (.tuple #[.slice A 16 c, .nilIface]) ∧ Took w w' tp T tape A c := by
  obtain ⟨hb, hr, hc⟩ := ht
  obtain ⟨b, o, rfl, hlt, hcell⟩ := hr.open_ (by omega)
  have c0 := hb.cell 0
  obtain ⟨n, hN⟩ : ∃ n, n = tape.length := ⟨_, rfl⟩
  rw [← hN] at c0 hb hc hn hmax
  have HN := Lib.hid hN
  clear hN
  have e16 : ((16 : Int)).toNat = 16 := rfl
  have hr1 : Rd w (some ⟨b, o, none⟩) (tape.take 16) := fun _ => ⟨_, rfl, hlt, rfl, fun j x hx => by
    obtain ⟨ad, e, _, _, hc2⟩ := hr (by have := HN.out; omega)
    injection e with e; subst e
    refine hc2 j x ?_
    rw [List.getElem?_take] at hx
    split at hx
    · exact hx
    · cases hx⟩
  have hl1 : (tape.take 16).length = 16 := by rw [List.length_take]; have := HN.out; omega
  have HL1 := Lib.hid hl1
  clear hl1 hcell
  go_enter Tryd.func75, Tryd.ntmps75
  go_wp2_with fail
  refine (clone_any _ 16 cT (tape.take 16) _ HL1.out.symm hr1 (by rw [HL1.out]; decide)).mono ?_
  rintro e w1 ⟨A, c, rfl, hown, hB⟩
  have hb1 := hb.below hB hb.lt
  have c1 := hb1.cell 0
  have f1 := hb1.frozen 0
  go_wp2_with fail
  · go_ret2
    exact ⟨A, c, rfl, took_end hb hr HN.out hB hown (.inl (by omega)) (by omega)⟩
  · go_ret2
    exact ⟨A, c, rfl, took_end hb hr HN.out hB hown (.inr rfl) (by omega)⟩
theorem TapeAt.only {w w' : World} {tp g : Nat} {T : Option Addr} {cT : Nat} {tape : List UInt8} (h : TapeAt w tp T cT tape) (hb : w.grownBy w' (some g)) (h1 : tp ≠ g) (h2 : 0 < tape.length → ∀ ad, T = some ad → ad.block ≠ g) : TapeAt w' tp T cT tape := by
  refine ⟨h.1.grown hb (by simpa using h1), fun hn => ?_, h.2.2⟩
  exact h.2.1.only hb (h2 hn) hn
theorem TapeAt.below {w w' : World} {tp : Nat} {T : Option Addr} {cT : Nat} {tape : List UInt8} (h : TapeAt w tp T cT tape) (hb : Below w.heap.size w w') : TapeAt w' tp T cT tape := ⟨h.1.below hb h.1.lt, h.2.1.below hb, h.2.2⟩
theorem Rd.range {w : World} {g : Nat} {l : List UInt8} (h : Rd w (some ⟨g, 0, none⟩) l) : w.rangeAt g 0 (l.map bv) := fun j v hv => by
  rw [List.getElem?_map] at hv
  cases hx : l[j]? with
  | none => rw [hx] at hv; cases hv
  | some x =>
    rw [hx] at hv
    have hv' : some (bv x) = some v := hv
    obtain rfl := Option.some.inj hv'
    obtain ⟨ad, e, _, _, hc⟩ := h (by have := (List.getElem?_eq_some_iff.1 hx).1; omega)
    injection e with e; subst e
    have := hc j x hx
    rwa [add_mk] at this
/-- a draw that is none of the key's answers; what is left of the tape -/
def drawP (rows : List BRow) (key : List UInt8) (back : Bool) (tape : List UInt8) : Option (List UInt8) × List UInt8 :=
  if _h : tape.length < 16 then (none, tape)
  else if takenP rows key back (tape.take 16) then drawP rows key back (tape.drop 16) else (some (tape.take 16), tape.drop 16)
termination_by tape.length
decreasing_by simp; omega
def zero16 : List UInt8 := List.replicate 16 0
set_option maxRecDepth 100000 in
set_option maxHeartbeats 4000000 in
theorem draw_any (rows : List BRow) (hok : ∀ r ∈ rows, r.ok) (R : Option Addr) (n cR : Nat) (hn : n = rows.length) (p pb ps pk bg tp : Nat) (T : Option Addr) (cT : Nat) (tape : List UInt8) (back : Bool) (key : List UInt8) (w : World) (hR : w.ownsRow 0 126 33 (.slice R rows.length cR) rows.length (rows.flatMap BRow.cells))
    (hp : Blk w p 76 #[.slice R n cR, .pointer (some ⟨tp, 0, none⟩)]) (hpb : w.cell? ⟨pb, 0, none⟩ = some (.pointer (some ⟨p, 0, none⟩))) (hs : w.cell? ⟨ps, 0, none⟩ = some (.func (.func 53) #[] #[.pointer (some ⟨bg, 0, none⟩)])) (hb : w.cell? ⟨bg, 0, none⟩ = some (.bool back)) (hk : w.cell? ⟨pk, 0, none⟩ = some (.string ⟨key.toArray⟩)) (hmax : rows.length ≤ 140737488355328)
    (ht : TapeAt w tp T cT tape) (htm : tape.length ≤ 65536) (hT : ∀ ad, T = some ad → ad.block ≠ tp) (n1 : p ≠ tp) (n2 : pb ≠ tp) (n3 : ps ≠ tp) (n4 : bg ≠ tp) (n5 : pk ≠ tp) (n6 : blkOf R ≠ some tp) :
    Calls Tryd.prog 54 #[.pointer (some ⟨p, 0, none⟩), .func (.func 55) #[] #[.pointer (some ⟨pb, 0, none⟩), .pointer (some ⟨ps, 0, none⟩), .pointer (some ⟨pk, 0, none⟩)]] w fun e w' =>
      (∃ T' cT', TapeAt w' tp T' cT' (drawP rows key back tape).2 ∧ T'.map (·.block) = T.map (·.block)) ∧ w.grownBy w' (some tp) ∧
        ((∃ y, (drawP rows key back tape).1 = some y ∧ y.length = 16 ∧ e = .returned (.tuple #[.agg (cs y), .nilIface])) ∨ ((drawP rows key back tape).1 = none ∧ ∃ v, e = .returned (.tuple #[.agg (cs zero16), v]) ∧ ErrIs w' 13 v)) := by
  have HN := Lib.hid hn
  clear hn
  have hz16 : (Tryd.prog.info? 41).map (·.size) = some (cs zero16).size := by rw [cs_size]; exact info16'
  go_enter Tryd.func54, Tryd.ntmps54
  go_wp2_with fail
  go_loopg [8] tape.length (fun gq _ wr => ∃ tape2 T2 cT2, gq = tape2.length ∧ tape2.length ≤ 65536 ∧ tape2.length ≤ tape.length ∧ TapeAt wr tp T2 cT2 tape2 ∧ T2.map (·.block) = T.map (·.block) ∧ w.grownBy wr (some tp) ∧ Blk wr w.heap.size 41 (cs zero16) ∧ Hid (drawP rows key back tape2 = drawP rows key back tape))
  case atStart => exact ⟨tape, T, cT, rfl, htm, Nat.le_refl _, ⟨ht.1.alloc _, ht.2.1.alloc _, ht.2.2⟩, rfl, only_alloc (only_refl _ _) _, Blk.new _ _ _, rfl⟩
  case round =>
    obtain ⟨tape2, T2, cT2, hgk, hl, hle, ht2, hT2, hB, hz, hD⟩ := hrel
    have HG := Lib.hid hgk
    clear hgk
    have c1 : wr.cell? ⟨p, 1, none⟩ = some (.pointer (some ⟨tp, 0, none⟩)) := (hp.grown hB (by simpa using n1)).cell 1
    have htp := ht.1.lt
    have hTb : 0 < tape2.length → ∀ ad, T2 = some ad → ad.block < w.heap.size ∧ ad.block ≠ tp := fun hn ad e => by
      obtain ⟨ad0, e0, hlt0, _⟩ := ht.2.1 (by omega)
      rw [e, e0] at hT2
      simp only [Option.map_some, Option.some.injEq] at hT2
      have := hT _ e0
      omega
    have HTB := Lib.hid hTb
    clear hTb
    by_cases hlt : tape2.length < 16
    · have hDn : Hid (drawP rows key back tape = (none, tape2)) := by
        show _ = _
        rw [← hD.out, drawP, dif_pos hlt]
      go_wp2_with fail
      refine (take_short tp T2 cT2 tape2.length wr ht2.1 hlt).mono ?_
      rintro e w1 ⟨v, rfl, hv, ⟨g, rfl, hg⟩, hB1⟩
      go_wp2_with (first
        | (refine wpList_store_blk rfl 41 _ _ rfl w.heap.size (cs zero16) rfl rfl 41 _ (hz.below hB1 hz.lt) hz16 rfl (one_cs _) ?_))
      have hS := only_of_setRow w1 w.heap.size (cs zero16)
      have hsz := hB.size
      have hsz1 := hB1.size
      have hzl := hz.lt
      refine bodyPost_ret (results_cellt Tryd.results54 _ _ _ w.heap.size (cs zero16) 41 rfl ((hz.below hB1 hz.lt).setRow _) _ Tryd.underlying41 rfl hz16) rfl ?_
      rw [hDn.out]
      refine ⟨⟨T2, cT2, (ht2.below hB1).only hS (by omega) (fun hn ad e => by have := (HTB.out hn ad e).1; omega), hT2⟩, only_setRow (only_trans hB (only_of_below hB1 _)) (.inr (Nat.le_refl _)) _, .inr ⟨rfl, _, rfl, hv.only hS ?_⟩⟩
      intro g' e
      injection e with e1 e2
      injection e2 with e2
      injection e2 with e2
      injection e2 with e2
      omega
    · have hDs : Hid (drawP rows key back tape = if takenP rows key back (tape2.take 16) then drawP rows key back (tape2.drop 16) else (some (tape2.take 16), tape2.drop 16)) := by
        show _ = _
        rw [← hD.out, drawP, dif_neg hlt]
      have hge : 16 ≤ tape2.length := by omega
      clear hlt
      go_wp2_with fail
      refine (take_any tp T2 cT2 tape2 wr ht2 hge hl).mono ?_
      rintro e w1 ⟨A, c, rfl, hown, hB1, T3, cT3, ht3, hT3⟩
      have hl1 : (tape2.take 16).length = 16 := by rw [List.length_take]; omega
      have hl2 : (tape2.drop 16).length = tape2.length - 16 := by rw [List.length_drop]
      obtain ⟨y, hy⟩ : ∃ y, y = tape2.take 16 := ⟨_, rfl⟩
      obtain ⟨tape3, htp3⟩ : ∃ t, t = tape2.drop 16 := ⟨_, rfl⟩
      rw [← hy] at hl1 hown
      rw [← htp3] at hl2 ht3
      rw [← hy, ← htp3] at hDs
      clear hy htp3
      have HL1 := Lib.hid hl1
      have HL2 := Lib.hid hl2
      clear hl1 hl2
      obtain ⟨gA, rfl, hgA, hgA2⟩ : ∃ g, A = some ⟨g, 0, none⟩ ∧ wr.heap.size ≤ g ∧ g < w1.heap.size := by
        rcases hown.form with ⟨_, h⟩ | ⟨g, h, h2, h3, _⟩
        · have := HL1.out; rw [h] at this; cases this
        · exact ⟨g, h, h2, h3⟩
      have hrg := hown.rd.range
      have harr : ∀ (w : World), (Instr.arrayAt 41 (.slice (some ⟨gA, 0, none⟩) 16 c)).run Tryd.prog w = .ok (.pointer (some ⟨gA, 0, none⟩)) w := fun w => run_arrayAt w _ _ 16 _ _ c Tryd.underlying41 (by omega)
      have hys : (Tryd.prog.info? 41).map (·.size) = some (y.map bv).length := by rw [List.length_map, HL1.out]; exact info16'
      have hys2 : (Tryd.prog.info? 41).map (·.size) = some (cs y).size := by rw [cs_size, HL1.out]; exact info16'
      go_wp2_with (first
        | (refine wpList_load_mid rfl 41 _ rfl gA 0 rfl (y.map bv) _ hrg Tryd.underlying41 rfl hys ?_)
        | (refine wpList_store_new rfl 41 _ _ rfl (cs y) _ (by first | rfl | simp) rfl rfl 41 _ hys2 (by rw [cs_size, HL1.out]; rfl) (one_cs _) ?_; refine wpList_name ?_; intro W hW; refine lock_stop ?_))
      have hsz := hB.size
      have hsz1 := hB1.size
      have hzl := hz.lt
      have hB1' : w.grownBy w1 (some tp) := only_trans hB hB1
      have hBW : w.grownBy W (some tp) := by rw [hW.out]; exact only_alloc hB1' _
      have hyb : Blk W w1.heap.size 41 (cs y) := by rw [hW.out]; exact Blk.new _ _ _
      have hzW : Blk W w.heap.size 41 (cs zero16) := by rw [hW.out]; exact (hz.grown hB1 (by simp; omega)).alloc _
      have htW : TapeAt W tp T3 cT3 tape3 := by rw [hW.out]; exact ht3.below ((Below.refl _ _).alloc (Nat.le_refl _) _)
      have hWs : W.heap.size = w1.heap.size + 1 := by rw [hW.out]; simp
      clear hW hrg hown
      have hpW := hp.grown hBW (by simpa using n1)
      have hpbW := only_cell hBW n2 hpb
      have hsW := only_cell hBW n3 hs
      have hbW := only_cell hBW n4 hb
      have hkW := only_cell hBW n5 hk
      have hRW := ownsRow_at hR (fun k hk hlt => hBW.block k hlt (by rw [← hk]; exact n6))
      have ly : (Instr.loadAt 41 (.pointer (some ⟨w1.heap.size, 0, none⟩))).run Tryd.prog W = .ok (.agg (cs y)) W := load_at hyb Tryd.underlying41 rfl hys2
      refine lock_go ?_
      go_wp2_with (first
        | (refine wpList_load_g (by rfl) 41 _ rfl _ _ rfl _ _ hyb Tryd.underlying41 rfl hys2 ?_)
        | (go_at_call 55; refine (ask2_any rows hok R n cR HN.out p pb ps pk bg _ back key y HL1.out W hRW hpW hpbW hsW hbW hkW hmax).mono ?_; rintro e w2 ⟨rfl, hB2⟩; refine lock_stop ?_))
      have hB3 : w.grownBy w2 (some tp) := only_trans hBW (only_of_below hB2 _)
      have hy2 := hyb.below hB2 hyb.lt
      have hz2 := hzW.below hB2 hzW.lt
      have ht2' := htW.below hB2
      have hsz2 := hB2.size
      clear hB2 hpW hpbW hsW hbW hkW hRW ly
      refine lock_go ?_
      cases hty : takenP rows key back y
      · have hDn : Hid (drawP rows key back tape = (some y, tape3)) := by
          show _ = _
          rw [hDs.out, hty]; rfl
        clear hty
        go_wp2_with (first
          | (refine wpList_load_g (by rfl) 41 _ rfl _ _ rfl _ _ hy2 Tryd.underlying41 rfl hys2 ?_)
          | (refine wpList_store_blk rfl 41 _ _ rfl w.heap.size (cs y) rfl rfl 41 _ hz2 hys2 (by rw [cs_size, cs_size, HL1.out]; rfl) (one_cs _) ?_))
        have hS := only_of_setRow w2 w.heap.size (cs y)
        refine bodyPost_ret (results_cellt Tryd.results54 _ _ _ w.heap.size (cs y) 41 rfl (hz2.setRow _) _ Tryd.underlying41 rfl hys2) rfl ?_
        rw [hDn.out]
        refine ⟨⟨T3, cT3, ht2'.only hS (by omega) (fun hn ad e => ?_), hT3.trans hT2⟩, only_setRow hB3 (.inr (Nat.le_refl _)) _, .inl ⟨y, rfl, HL1.out, rfl⟩⟩
        rw [e] at hT3
        cases hT2c : T2 with
        | none => rw [hT2c] at hT3; cases hT3
        | some a2 =>
          rw [hT2c] at hT3
          simp only [Option.map_some, Option.some.injEq] at hT3
          have := (HTB.out (by omega) a2 hT2c).1
          omega
      · have hDn : Hid (drawP rows key back tape3 = drawP rows key back tape) := by
          show _ = _
          rw [hDs.out, hty]; rfl
        clear hty
        go_wp2_with fail
        go_roundg tape3.length
        case measure => have := HG.out; have := HL2.out; omega
        case rel => exact ⟨tape3, T3, cT3, rfl, by have := HL2.out; omega, by have := HL2.out; omega, ht2', hT3.trans hT2, hB3, hz2, hDn⟩
end Go.Proofs.YtbmhmohpnhckgaaDoor
