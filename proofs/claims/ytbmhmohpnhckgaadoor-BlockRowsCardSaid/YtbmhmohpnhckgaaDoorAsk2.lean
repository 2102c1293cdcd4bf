/- the oracle: ask -/
import Derived.Test.YtbmhmohpnhckgaaDoorAsk
import Derived.Deep.RegionHeldLaw
import Derived.Deep.DeepCutAuto
import Derived.Deep.CutBlock
namespace Go.Proofs.YtbmhmohpnhckgaaDoor
set_option linter.unusedSimpArgs false
open Go.RowKit
def hitP (key : List UInt8) (back : Bool) (x : List UInt8) (r : BRow) : Bool := r.key == key && r.from_ back == x
/-- the oracle's answer, its rows and its tape then -/
def askP (rows : List BRow) (tape key x : List UInt8) (back : Bool) : Option (List UInt8) × List BRow × List UInt8 :=
  match rows.find? (hitP key back x) with
  | some r => (some (r.to_ back), rows, tape)
  | none => match drawP rows key back tape with
    | (some y, t) => (some y, rows ++ [if back then ⟨key, y, x⟩ else ⟨key, x, y⟩], t)
    | (none, t) => (none, rows, t)
theorem one_row (r : BRow) : ∀ v ∈ r.cells, v.oneCell' = true := by
  intro v hv
  simp only [BRow.cells, List.mem_cons, List.mem_append, List.mem_map] at hv
  rcases hv with rfl | ⟨_, _, rfl⟩ | ⟨_, _, rfl⟩ <;> rfl
theorem store_func (W : World) (n : Nat) (f : Fn) (a b : Array Value) (t : TypeId) (h : n = W.heap.size) : (store ⟨n, 0, none⟩ (.func f a b)).run Tryd.prog (W.alloc (.cells #[.nilFunc] t)) = .ok () ((W.alloc (.cells #[.nilFunc] t)).setCell ⟨n, 0, none⟩ (.func f a b)) := by
  subst h
  rw [run_store Tryd.prog _ _ _ _ (by rfl)]
  simp
theorem list16 : ∀ (l : List UInt8), l.length = 16 → ∃ a0 a1 a2 a3 a4 a5 a6 a7 a8 a9 a10 a11 a12 a13 a14 a15, l = [a0, a1, a2, a3, a4, a5, a6, a7, a8, a9, a10, a11, a12, a13, a14, a15]
  | [a0, a1, a2, a3, a4, a5, a6, a7, a8, a9, a10, a11, a12, a13, a14, a15], _ => ⟨a0, a1, a2, a3, a4, a5, a6, a7, a8, a9, a10, a11, a12, a13, a14, a15, rfl⟩
set_option maxRecDepth 100000 in
theorem built_row (k x y : List UInt8) (hx : x.length = 16) (hy : y.length = 16) : Tryd.prog.built 126 [(0, .string ⟨k.toArray⟩), (1, .agg (cs x)), (2, .agg (cs y))] = some (rowA ⟨k, x, y⟩) := by
  obtain ⟨a0, a1, a2, a3, a4, a5, a6, a7, a8, a9, a10, a11, a12, a13, a14, a15, rfl⟩ := list16 x hx
  obtain ⟨b0, b1, b2, b3, b4, b5, b6, b7, b8, b9, b10, b11, b12, b13, b14, b15, rfl⟩ := list16 y hy
  clear hx hy
  kernel_rfl
set_option maxRecDepth 100000 in
theorem bslice_row (k x y : List UInt8) (hx : x.length = 16) (hy : y.length = 16) (w : World) : (Instr.buildSlice 74 1 #[(0, .agg (rowA ⟨k, x, y⟩))]).run Tryd.prog w = .ok (.slice (some ⟨w.heap.size, 0, none⟩) 1 1) (w.alloc (.cells (rowA ⟨k, x, y⟩) 126)) := by
  obtain ⟨a0, a1, a2, a3, a4, a5, a6, a7, a8, a9, a10, a11, a12, a13, a14, a15, rfl⟩ := list16 x hx
  obtain ⟨b0, b1, b2, b3, b4, b5, b6, b7, b8, b9, b10, b11, b12, b13, b14, b15, rfl⟩ := list16 y hy
  clear hx hy
  kernel_rfl
theorem rowinfo3 : (Tryd.prog.info? 126).map (fun i => (i.zero, i.size, i.bytes)) = some (some (.agg #[.string ⟨#[]⟩, .int .u8 0, .int .u8 0, .int .u8 0, .int .u8 0, .int .u8 0, .int .u8 0, .int .u8 0, .int .u8 0, .int .u8 0, .int .u8 0, .int .u8 0, .int .u8 0, .int .u8 0, .int .u8 0, .int .u8 0, .int .u8 0, .int .u8 0, .int .u8 0, .int .u8 0, .int .u8 0, .int .u8 0, .int .u8 0, .int .u8 0, .int .u8 0, .int .u8 0, .int .u8 0, .int .u8 0, .int .u8 0, .int .u8 0, .int .u8 0, .int .u8 0, .int .u8 0]), 33, 48) := by kernel_rfl
/-- what six new blocks leave, the last one written to -/
structure SixP (w W : World) (c0 : Array Value) (t0 : TypeId) (c1 : Array Value) (t1 : TypeId) (c2 : Array Value) (t2 : TypeId) (c3 : Array Value) (t3 : TypeId) (c4 : Array Value) (t4 : TypeId) (c5 : Array Value) (t5 : TypeId) : Prop where
  b0 : Blk W w.heap.size t0 c0
  b1 : Blk W (w.heap.size + 1) t1 c1
  b2 : Blk W (w.heap.size + 1 + 1) t2 c2
  b3 : Blk W (w.heap.size + 1 + 1 + 1) t3 c3
  b4 : Blk W (w.heap.size + 1 + 1 + 1 + 1) t4 c4
  b5 : Blk W (w.heap.size + 1 + 1 + 1 + 1 + 1) t5 c5
  below : Below w.heap.size w W
  size : W.heap.size = w.heap.size + 6
theorem six (w : World) (c0 : Array Value) (t0 : TypeId) (c1 : Array Value) (t1 : TypeId) (c2 : Array Value) (t2 : TypeId) (c3 : Array Value) (t3 : TypeId) (c4 : Array Value) (t4 : TypeId) (c5 : Array Value) (t5 : TypeId) :
    SixP w ((((((w.alloc (.cells c0 t0)).alloc (.cells c1 t1)).alloc (.cells c2 t2)).alloc (.cells c3 t3)).alloc (.cells c4 t4)).alloc (.cells c5 t5)) c0 t0 c1 t1 c2 t2 c3 t3 c4 t4 c5 t5 := by
  have s1 := World.size_alloc w (.cells c0 t0)
  have s2 := World.size_alloc (w.alloc (.cells c0 t0)) (.cells c1 t1)
  have s3 := World.size_alloc ((w.alloc (.cells c0 t0)).alloc (.cells c1 t1)) (.cells c2 t2)
  have s4 := World.size_alloc (((w.alloc (.cells c0 t0)).alloc (.cells c1 t1)).alloc (.cells c2 t2)) (.cells c3 t3)
  have s5 := World.size_alloc ((((w.alloc (.cells c0 t0)).alloc (.cells c1 t1)).alloc (.cells c2 t2)).alloc (.cells c3 t3)) (.cells c4 t4)
  have s6 := World.size_alloc (((((w.alloc (.cells c0 t0)).alloc (.cells c1 t1)).alloc (.cells c2 t2)).alloc (.cells c3 t3)).alloc (.cells c4 t4)) (.cells c5 t5)
  have e0 : Blk (w.alloc (.cells c0 t0)) w.heap.size t0 c0 := Blk.new _ _ _
  have e1 : Blk ((w.alloc (.cells c0 t0)).alloc (.cells c1 t1)) (w.heap.size + 1) t1 c1 := Blk.new_at (by omega) _ _
  have e2 : Blk (((w.alloc (.cells c0 t0)).alloc (.cells c1 t1)).alloc (.cells c2 t2)) (w.heap.size + 1 + 1) t2 c2 := Blk.new_at (by omega) _ _
  have e3 : Blk ((((w.alloc (.cells c0 t0)).alloc (.cells c1 t1)).alloc (.cells c2 t2)).alloc (.cells c3 t3)) (w.heap.size + 1 + 1 + 1) t3 c3 := Blk.new_at (by omega) _ _
  have e4 : Blk (((((w.alloc (.cells c0 t0)).alloc (.cells c1 t1)).alloc (.cells c2 t2)).alloc (.cells c3 t3)).alloc (.cells c4 t4)) (w.heap.size + 1 + 1 + 1 + 1) t4 c4 := Blk.new_at (by omega) _ _
  have e5 : Blk ((((((w.alloc (.cells c0 t0)).alloc (.cells c1 t1)).alloc (.cells c2 t2)).alloc (.cells c3 t3)).alloc (.cells c4 t4)).alloc (.cells c5 t5)) (w.heap.size + 1 + 1 + 1 + 1 + 1) t5 c5 := Blk.new_at (by omega) _ _
  exact ⟨((((e0.alloc _).alloc _).alloc _).alloc _).alloc _, (((e1.alloc _).alloc _).alloc _).alloc _, ((e2.alloc _).alloc _).alloc _, (e3.alloc _).alloc _, e4.alloc _, e5,
    (((((((Below.refl _ _).alloc (Nat.le_refl _) _).alloc (by omega) _).alloc (by omega) _).alloc (by omega) _).alloc (by omega) _).alloc (by omega) _), by omega⟩
theorem TapeAt.grown {w w' : World} {tp : Nat} {T : Option Addr} {cT : Nat} {tape : List UInt8} {row : Option Nat} (h : TapeAt w tp T cT tape) (hb : w.grownBy w' row) (h1 : some tp ≠ row) (h2 : ∀ ad, T = some ad → some ad.block ≠ row) : TapeAt w' tp T cT tape := by
  refine ⟨h.1.grown hb h1, fun hn => ?_, h.2.2⟩
  obtain ⟨ad, e, hlt, hs, hc⟩ := h.2.1 hn
  exact ⟨ad, e, by have := hb.size; omega, hs, fun j x hx => (World.cell?_of_block (w := w) (by rw [block_of_add]; exact hb.block _ hlt (h2 ad e))).trans (hc j x hx)⟩
theorem Fr.of_grown {a b : World} {row : Option Nat} {F : Nat → Prop} (h : a.grownBy b row) (hr : ∀ k, row = some k → F k ∨ a.heap.size ≤ k) : Fr F a b :=
  ⟨h.os, h.tape, h.output, h.size, fun i hi hn => h.block i hi (fun e => by
    rcases hr i e.symm with h1 | h1
    · exact hn h1
    · omega)⟩
theorem ask_end {F : Nat → Prop} {p tp3 k : Nat} {rows : List BRow} {tape : List UInt8} {T3 R3 : Option Addr} {cT3 cR3 cap g q nq : Nat} {w W3 w4 : World} {r : BRow} {o : Obj} {c : Array Value} (hk : k = rows.length)
    (j1 : F p) (j2 : F tp3) (j3 : p ≠ tp3) (j4 : Blk W3 p 76 #[.slice R3 k cR3, .pointer (some ⟨tp3, 0, none⟩)]) (j5 : TapeAt W3 tp3 T3 cT3 tape) (j6 : ∀ ad, T3 = some ad → F ad.block ∧ ad.block ≠ p ∧ ad.block ≠ tp3)
    (j8 : ∀ k, blkOf R3 = some k → F k ∧ k ≠ p ∧ k ≠ tp3 ∧ ∀ ad, T3 = some ad → k ≠ ad.block) (j9 : ∀ r ∈ rows, r.ok) (hF : ∀ i, F i → i < w.heap.size) (hF4 : Fr F w W3) (hr : r.ok)
    (hgrow : ((W3.drewN nq).alloc o).grownBy w4 (blkOf R3)) (hat : blkOf R3 = some g ∨ g = W3.heap.size + 1) (hglt : g < w4.heap.size)
    (hown : w4.ownsRow 0 126 33 (.slice (some ⟨g, 0, none⟩) (k + 1) cap) (k + 1) (rows.flatMap BRow.cells ++ r.cells)) (hq : w.heap.size ≤ q) (hq2 : q < W3.heap.size) :
    ∃ F', (∀ i, F' i → F i ∨ w.heap.size ≤ i) ∧ BookIs ((w4.setCell ⟨p, 0, none⟩ (.slice (some ⟨g, 0, none⟩) (k + 1) cap)).setRow q c) F' p (rows ++ [r]) tape ∧ Fr F w ((w4.setCell ⟨p, 0, none⟩ (.slice (some ⟨g, 0, none⟩) (k + 1) cap)).setRow q c) := by
  have hp := hF p j1
  have htp := hF tp3 j2
  have hs3 := hF4.size
  have hs4 := hgrow.size
  have hsa : ((W3.drewN nq).alloc o).heap.size = W3.heap.size + 1 := by simp
  have hnp : some p ≠ blkOf R3 := fun e => (j8 p e.symm).2.1 rfl
  have hntp : some tp3 ≠ blkOf R3 := fun e => (j8 tp3 e.symm).2.2.1 rfl
  have hB : Below W3.heap.size W3 ((W3.drewN nq).alloc o) := (below_drewN (Below.refl _ _) nq).alloc (Nat.le_refl _) o
  have hg : g ≠ p ∧ g ≠ tp3 ∧ g ≠ q ∧ (F g ∨ w.heap.size ≤ g) ∧ ∀ ad, T3 = some ad → g ≠ ad.block := by
    rcases hat with e | e
    · obtain ⟨a, b, cc, d⟩ := j8 g e
      have := hF g a
      exact ⟨b, cc, by omega, .inl a, d⟩
    · refine ⟨by omega, by omega, by omega, .inr (by omega), fun ad h => ?_⟩
      have := hF _ (j6 ad h).1
      omega
  obtain ⟨g1, g2, g3, g4, g5⟩ := hg
  have z4 : Blk w4 p 76 #[.slice R3 k cR3, .pointer (some ⟨tp3, 0, none⟩)] := (j4.below hB j4.lt).grown hgrow hnp
  have hl : (rows ++ [r]).length = k + 1 := by simp [hk]
  refine ⟨fun i => F i ∨ i = g, ?_, ?_, ?_⟩
  · rintro i (h | rfl)
    · exact .inl h
    · exact g4
  · refine ⟨tp3, T3, cT3, some ⟨g, 0, none⟩, cap, .inl j1, .inl j2, j3, ?_, ?_, ?_, ?_, ?_, ?_, ?_⟩
    · rw [hl]
      have := (z4.set_ 0 (.slice (some ⟨g, 0, none⟩) (k + 1) cap)).farRow (g' := q) (c' := c) (by omega)
      exact this
    · have t1 := (j5.below hB).grown hgrow hntp (fun ad e e2 => (j8 ad.block e2.symm).2.2.2 ad e rfl)
      have t2 := t1.only (only_of_setCell w4 ⟨p, 0, none⟩ (.slice (some ⟨g, 0, none⟩) (k + 1) cap)) (Ne.symm j3) (fun _ ad e => (j6 ad e).2.1)
      exact t2.only (only_of_setRow _ q c) (by omega) (fun _ ad e => by have := hF _ (j6 ad e).1; omega)
    · exact fun ad e => ⟨.inl (j6 ad e).1, (j6 ad e).2⟩
    · rw [hl, List.flatMap_append]
      have : [r].flatMap BRow.cells = r.cells := by simp
      rw [this]
      refine ownsRow_at hown (fun k' hk' _ => ?_)
      have e : k' = g := by simpa [blkOf] using hk'.symm
      subst e
      exact (setRow_other' _ q _ c g3).trans (Below.heap_setCell _ _ _ _ (by simpa using g1))
    · intro k' hk'
      have e : k' = g := by simpa [blkOf] using hk'.symm
      subst e
      exact ⟨.inr rfl, g1, g2, g5⟩
    · intro r' hr'
      rcases List.mem_append.1 hr' with h | h
      · exact j9 r' h
      · rw [List.mem_singleton.1 h]; exact hr
    · rintro i (h | rfl)
      · have := hF i h; simp [World.setCell]; omega
      · simp [World.setCell]; exact hglt
  · have f1 := hF4.then_below hB
    have f2 := f1.trans (Fr.of_grown (F := F) hgrow (fun k' hk' => .inl (j8 k' hk').1)) (fun i h => .inl h)
    exact (f2.setCell (.inl j1) _).setRow (.inr hq) _
set_option maxRecDepth 100000 in
set_option maxHeartbeats 8000000 in
theorem ask_any {F : Nat → Prop} {p : Nat} {rows : List BRow} {tape : List UInt8} (w : World) (hbook : BookIs w F p rows tape) (key x : List UInt8) (hx : x.length = 16) (back : Bool) (hmax : rows.length ≤ 1000000) (htm : tape.length ≤ 65536) :
    Calls Tryd.prog 37 #[.pointer (some ⟨p, 0, none⟩), .string ⟨key.toArray⟩, .agg (cs x), .bool back] w fun e w' =>
      ∃ F', (∀ i, F' i → F i ∨ w.heap.size ≤ i) ∧ BookIs w' F' p (askP rows tape key x back).2.1 (askP rows tape key x back).2.2 ∧ Fr F w w' ∧
        ((∃ y, (askP rows tape key x back).1 = some y ∧ y.length = 16 ∧ e = .returned (.tuple #[.agg (cs y), .nilIface])) ∨ ((askP rows tape key x back).1 = none ∧ ∃ v, e = .returned (.tuple #[.agg (cs zero16), v]) ∧ ErrIs w' 13 v)) := by
  have hbk := hbook
  obtain ⟨tp, T, cT, R, cR, h1, h2, h3, h4, h5, h6, h7, h8, h9, h10⟩ := hbook
  obtain ⟨n, hN⟩ : ∃ n, n = rows.length := ⟨_, rfl⟩
  have HX := Lib.hid hx
  clear hx
  rw [← hN] at h4
  have c0 := h4.cell 0
  have c0' := fun o1 o2 o3 o4 o5 o6 => cell_alloc (cell_alloc (cell_alloc (cell_alloc (cell_alloc (cell_alloc (w := w) (b := p) (o := 0) (v := .slice R n cR) (by rw [c0]; rfl) o1) o2) o3) o4) o5) o6
  have HN := Lib.hid hN
  have hmax' : n ≤ 1000000 := by omega
  clear hN
  have hst := store_func
  go_enter Tryd.func37, Tryd.ntmps37
  go_wp2_with fail
  refine wp_name ?_
  intro W hW
  obtain ⟨b0, b1, b2, b3, b4, b5, hBW, hWs⟩ : SixP w W #[.pointer (some ⟨p, 0, none⟩)] 24 #[.string ⟨key.toArray⟩] 9 (cs x) 41 #[.bool back] 4 (cs zero16) 41 #[.func (.func 53) #[] #[.pointer (some ⟨w.heap.size + 1 + 1 + 1, 0, none⟩)]] 127 := by
    rw [hW.out]; exact six w _ _ _ _ _ _ _ _ _ _ _ _
  clear hW c0' hst
  go_loopg [24] n (fun gq s24 wr => ∃ k : Nat, k ≤ n ∧ gq = n - k ∧ s24 = .int .i64 (k : Int) ∧ Below W.heap.size W wr ∧ Hid (∀ i (hi : i < rows.length), i < k → hitP key back x rows[i] = false))
  case atStart => exact ⟨0, by omega, by omega, rfl, Below.refl _ _, fun _ _ h => by omega⟩
  case round =>
    obtain ⟨k, hk2, hgk, rfl, hB, hno⟩ := hrel
    have HG := Lib.hid hgk
    clear hgk
    by_cases hlt : k < n
    · obtain ⟨g, rfl, hrg, hcap⟩ := row_at (w := wr) (ownsRow_at h7 (fun k _ hk => (below_mid hBW hB (by omega)).block k hk)) h9 k (by rw [← HN.out]; exact hlt)
      have hkr : k < rows.length := by rw [← HN.out]; exact hlt
      obtain ⟨r, hr⟩ : ∃ r, r = rows[k]'hkr := ⟨_, rfl⟩
      rw [← hr] at hrg
      have hrok : r.ok := by rw [hr]; exact h9 _ (List.getElem_mem hkr)
      have hstep : Hid (hitP key back x r = false → ∀ i (hi : i < rows.length), i < k + 1 → hitP key back x rows[i] = false) := fun h i hi hi2 => by
        by_cases e : i = k
        · subst e; rw [← hr]; exact h
        · exact hno.out i hi (by omega)
      have hhit : Hid (hitP key back x r = true → rows.find? (hitP key back x) = some r) := fun h => by
        rw [List.find?_eq_some_iff_getElem]
        refine ⟨h, k, hkr, hr.symm, fun j hj => ?_⟩
        rw [hno.out j (by omega) hj]; rfl
      clear hr hno
      have rsz : (Tryd.prog.info? 126).map (·.size) = some r.cells.length := by rw [cells_len hrok]; exact rowinfo
      have rsz2 : (Tryd.prog.info? 126).map (·.size) = some r.cells.toArray.size := by simpa using rsz
      go_wp2_with (first
        | (refine wpList_load_mid rfl 126 _ rfl g (k * 33) rfl r.cells _ hrg Tryd.underlying126 rfl rsz ?_)
        | (refine wpList_store_new rfl 126 _ _ rfl r.cells.toArray _ (by first | rfl | simp) rfl rfl 126 _ rsz2 (by simp [cells_len hrok]) (all_oneCell_toArray (one_row r)) ?_; refine wpList_name ?_; intro W1 hW1; refine lock_stop ?_))
      have hBr := below_mid hBW hB (by omega)
      have hW1s : W1.heap.size = wr.heap.size + 1 := by rw [hW1.out]; simp
      have hB1 : Below W.heap.size W W1 := by rw [hW1.out]; exact hB.alloc hB.size _
      have hBs := hB.size
      have q0 : Blk W1 wr.heap.size 126 r.cells.toArray := by rw [hW1.out]; exact Blk.new _ _ _
      have q5 := (b5.below hB1 b5.lt).cell 0
      have q3 := (b3.below hB1 b3.lt).cell 0
      have q3' : W1.cell? ⟨w.heap.size + 1 + 1 + 1, 0, none⟩ = some (.bool back) := q3
      clear hW1 hrg q3
      have fsz : (r.from_ back).length = 16 := by unfold BRow.from_; split <;> first | exact hrok.1 | exact hrok.2
      have tsz : (r.to_ back).length = 16 := by unfold BRow.to_; split <;> first | exact hrok.1 | exact hrok.2
      have FS := Lib.hid fsz
      have TS := Lib.hid tsz
      clear fsz tsz
      refine lock_go ?_
      go_wp2_with (first
        | (refine wpList_load_row rfl 126 _ rfl wr.heap.size rfl 126 r.cells.toArray (0, 0) _ q0 Tryd.underlying126 rfl rsz2 ?_)
        | (go_at_call 53; refine (sides_any r hrok r.cells.toArray rfl (w.heap.size + 1 + 1 + 1) back _ q3').mono ?_; rintro e w1 ⟨rfl, hB2⟩)
        | (refine wpList_store_blk rfl 41 _ _ rfl _ (cs (r.from_ back)) rfl rfl 41 _ ((Blk.new _ _ _).alloc _) (by rw [cs_size, FS.out]; exact info16') (by rw [cs_size, FS.out]; rfl) (one_cs _) ?_)
        | (refine wpList_store_blk rfl 41 _ _ rfl _ (cs (r.to_ back)) rfl rfl 41 _ ((Blk.new_at (by simp) _ _).farRow (by omega)) (by rw [cs_size, TS.out]; exact info16') (by rw [cs_size, TS.out]; rfl) (one_cs _) ?_; refine wpList_name ?_; intro W2 hW2; refine lock_stop ?_))
      have hw1 := hB2.size
      have hC : Below w1.heap.size w1 W2 := by
        rw [hW2.out]; exact below_row (below_row (((Below.refl _ _).alloc (Nat.le_refl _) _).alloc (by simp) _) (by omega) _) (by omega) _
      have hB3 : Below W1.heap.size W1 W2 := below_mid hB2 hC (by omega)
      have hB4 : Below W.heap.size W W2 := below_mid hB1 hB3 (by omega)
      have y0 := (q0.below hB3 q0.lt).cell 0
      have y1 := (b1.below hB4 b1.lt).cell 0
      have y2 := b2.below hB4 b2.lt
      have yf : Blk W2 w1.heap.size 41 (cs (r.from_ back)) := by rw [hW2.out]; exact (((Blk.new w1 _ _).alloc _).setRow _).farRow (by omega)
      have yt : Blk W2 (w1.heap.size + 1) 41 (cs (r.to_ back)) := by rw [hW2.out]; exact ((Blk.new_at (by simp) _ _).farRow (by omega)).setRow _
      have zf : (Tryd.prog.info? 41).map (·.size) = some (cs (r.from_ back)).size := by rw [cs_size, FS.out]; exact info16'
      have zt : (Tryd.prog.info? 41).map (·.size) = some (cs (r.to_ back)).size := by rw [cs_size, TS.out]; exact info16'
      have zx : (Tryd.prog.info? 41).map (·.size) = some (cs x).size := by rw [cs_size, HX.out]; exact info16'
      have qe := eql16 (r.from_ back) x FS.out HX.out
      have y0' : W2.cell? ⟨wr.heap.size, 0, none⟩ = some (.string ⟨r.key.toArray⟩) := y0
      have y4 := b4.below hB4 b4.lt
      clear hW2 q5 q3' y0
      refine lock_go ?_
      have hBW2 : Below w.heap.size w W2 := below_mid hBW hB4 (by omega)
      by_cases hkey : r.key = key
      · cases hfx : (r.from_ back == x)
        · have hno2 := Lib.hid (hstep.out (by unfold hitP; rw [hfx]; simp))
          rw [hfx] at qe
          clear hfx
          go_wp2_with (first
            | (refine wpList_load_g (by rfl) 41 _ rfl _ _ rfl _ _ yf Tryd.underlying41 rfl zf ?_)
            | (refine wpList_load_g (by rfl) 41 _ rfl _ _ rfl _ _ y2 Tryd.underlying41 rfl zx ?_))
          go_roundg (n - (k + 1))
          case measure => have := HG.out; omega
          case rel => exact ⟨k + 1, by omega, rfl, by go_num, hB4, hno2⟩
        · have hA : Hid (askP rows tape key x back = (some (r.to_ back), rows, tape)) := by
            show _ = _
            unfold askP
            rw [hhit.out (by unfold hitP; rw [hfx]; simp [hkey])]
          rw [hfx] at qe
          clear hfx
          go_wp2_with (first
            | (refine wpList_load_g (by rfl) 41 _ rfl _ _ rfl _ _ yf Tryd.underlying41 rfl zf ?_)
            | (refine wpList_load_g (by rfl) 41 _ rfl _ _ rfl _ _ yt Tryd.underlying41 rfl zt ?_)
            | (refine wpList_load_g (by rfl) 41 _ rfl _ _ rfl _ _ y2 Tryd.underlying41 rfl zx ?_)
            | (refine wpList_store_blk rfl 41 _ _ rfl _ (cs (r.to_ back)) rfl rfl 41 _ y4 zt (by rw [cs_size, cs_size, TS.out]; rfl) (one_cs _) ?_))
          have hBE : Below w.heap.size w (W2.setRow (w.heap.size + 1 + 1 + 1 + 1) (cs (r.to_ back))) := below_row hBW2 (by omega) _
          refine bodyPost_ret (results_cellt Tryd.results37 _ _ _ (w.heap.size + 1 + 1 + 1 + 1) (cs (r.to_ back)) 41 rfl (y4.setRow _) _ Tryd.underlying41 rfl zt) rfl ?_
          rw [hA.out]
          exact ⟨F, fun _ h => .inl h, hbk.below hBE, Fr.of_below hBE _, .inl ⟨_, rfl, TS.out, rfl⟩⟩
      · have hno2 := Lib.hid (hstep.out (by unfold hitP; simp [hkey]))
        go_wp2_with fail
        go_roundg (n - (k + 1))
        case measure => have := HG.out; omega
        case rel => exact ⟨k + 1, by omega, rfl, by go_num, hB4, hno2⟩
    · have hkn : k = n := by omega
      subst hkn
      have hfind : Hid (rows.find? (hitP key back x) = none) := by
        show _ = _
        rw [List.find?_eq_none]
        intro r hr
        obtain ⟨i, hi, rfl⟩ := List.getElem_of_mem hr
        simp [hno.out i hi (by rw [HN.out]; exact hi)]
      clear hno
      have hBr := below_mid hBW hB (by omega)
      have hBs := hB.size
      have htl := h5.1.lt
      have g0 := (b0.below hB b0.lt).cell 0
      have g0' : wr.cell? ⟨w.heap.size, 0, none⟩ = some (.pointer (some ⟨p, 0, none⟩)) := g0
      have g1 : wr.cell? ⟨w.heap.size + 1, 0, none⟩ = some (.string ⟨key.toArray⟩) := (b1.below hB b1.lt).cell 0
      have g3 : wr.cell? ⟨w.heap.size + 1 + 1 + 1, 0, none⟩ = some (.bool back) := (b3.below hB b3.lt).cell 0
      have g5 : wr.cell? ⟨w.heap.size + 1 + 1 + 1 + 1 + 1, 0, none⟩ = some (.func (.func 53) #[] #[.pointer (some ⟨w.heap.size + 1 + 1 + 1, 0, none⟩)]) := (b5.below hB b5.lt).cell 0
      have zz : (Tryd.prog.info? 41).map (·.size) = some (cs zero16).size := by rw [cs_size]; exact info16'
      clear g0
      go_wp2_with fail
      refine (draw_any rows h9 R k cR HN.out p w.heap.size (w.heap.size + 1 + 1 + 1 + 1 + 1) (w.heap.size + 1) (w.heap.size + 1 + 1 + 1) tp T cT tape back key wr (ownsRow_at h7 (fun k _ hk => hBr.block k hk)) (h4.below hBr h4.lt) g0' g5 g3 g1 (by omega) (h5.below hBr) htm (fun ad e => (h6 ad e).2.2) h3 (by omega) (by omega) (by omega) (by omega) (fun e => (h8 tp e).2.2.1 rfl)).mono ?_
      rintro e w1 ⟨⟨T', cT', ht', hT'⟩, hB1, hcase⟩
      have hs1 := hB1.size
      have d1 := (b1.below hB b1.lt).grown hB1 (by simp; omega)
      have d2 := (b2.below hB b2.lt).grown hB1 (by simp; omega)
      have d3 := (b3.below hB b3.lt).grown hB1 (by simp; omega)
      have d4 := (b4.below hB b4.lt).grown hB1 (by simp; omega)
      have hF1 : Fr F w w1 := (Fr.of_below hBr F).trans (G := fun i => i = tp) (Fr.of_only hB1 _ (.inl rfl)) (by rintro i rfl; exact .inl h2)
      have hbook1 : ∀ rest, TapeAt w1 tp T' cT' rest → BookIs w1 F p rows rest := fun rest ht => by
        have e4 : Blk w1 p 76 #[.slice R rows.length cR, .pointer (some ⟨tp, 0, none⟩)] := by
          rw [← HN.out]
          exact (h4.below hBr h4.lt).grown hB1 (by simp; omega)
        refine ⟨tp, T', cT', R, cR, h1, h2, h3, e4, ht, ?_, ownsRow_at h7 (fun k hk hlt => ?_), ?_, h9, fun i hi => by have := h10 i hi; have := hBr.size; omega⟩
        · intro ad e
          rw [e] at hT'
          cases hTc : T with
          | none => rw [hTc] at hT'; cases hT'
          | some a0 =>
            rw [hTc] at hT'
            simp only [Option.map_some, Option.some.injEq] at hT'
            rw [hT']; exact h6 a0 hTc
        · exact (hB1.block k (by have := hBr.size; omega) (by intro e; injection e with e; exact (h8 k hk).2.2.1 e)).trans (hBr.block k hlt)
        · intro k hk
          refine ⟨(h8 k hk).1, (h8 k hk).2.1, (h8 k hk).2.2.1, fun ad e => ?_⟩
          rw [e] at hT'
          cases hTc : T with
          | none => rw [hTc] at hT'; cases hT'
          | some a0 =>
            rw [hTc] at hT'
            simp only [Option.map_some, Option.some.injEq] at hT'
            rw [hT']; exact (h8 k hk).2.2.2 a0 hTc
      rcases hcase with ⟨y, hy, hyl, rfl⟩ | ⟨hy, v, rfl, hv⟩
      · obtain ⟨r, hr⟩ : ∃ r : BRow, r = (if back then ⟨key, y, x⟩ else ⟨key, x, y⟩) := ⟨_, rfl⟩
        have hA : Hid (askP rows tape key x back = (some y, rows ++ [r], (drawP rows key back tape).2)) := by
          show _ = _
          unfold askP
          rw [hfind.out]
          obtain ⟨o, t, h⟩ : ∃ o t, drawP rows key back tape = (o, t) := ⟨_, _, rfl⟩
          rw [h] at hy ⊢
          simp only at hy
          subst hy
          rw [hr]
        have hrok : r.ok := by
          rw [hr]
          split
          · exact ⟨hyl, HX.out⟩
          · exact ⟨HX.out, hyl⟩
        have HYL := Lib.hid hyl
        have HR := Lib.hid hr
        have HBK := Lib.hid (hbook1 _ ht')
        clear hbook1 hy g0' g1 g3 g5 hr hyl
        have zy : (Tryd.prog.info? 41).map (·.size) = some (cs y).size := by rw [cs_size, HYL.out]; exact info16'
        have zx : (Tryd.prog.info? 41).map (·.size) = some (cs x).size := by rw [cs_size, HX.out]; exact info16'
        have hk1 := d1.cell 0
        go_wp2_with (first
          | (refine wpList_store_new rfl 41 _ _ rfl (cs y) _ (by first | rfl | simp) rfl rfl 41 _ zy (by rw [cs_size, HYL.out]; rfl) (one_cs _) ?_; refine wpList_name ?_; intro W1 hW1; refine lock_stop ?_))
        have hW1s : W1.heap.size = w1.heap.size + 1 := by rw [hW1.out]; simp
        have e0 : Blk W1 w.heap.size 24 #[.pointer (some ⟨p, 0, none⟩)] := by rw [hW1.out]; exact ((b0.below hB b0.lt).grown hB1 (by simp; omega)).alloc _
        have e1 : Blk W1 (w.heap.size + 1) 9 #[.string ⟨key.toArray⟩] := by rw [hW1.out]; exact d1.alloc _
        have e2 : Blk W1 (w.heap.size + 1 + 1) 41 (cs x) := by rw [hW1.out]; exact d2.alloc _
        have e3 : Blk W1 (w.heap.size + 1 + 1 + 1) 4 #[.bool back] := by rw [hW1.out]; exact d3.alloc _
        have e4 : Blk W1 (w.heap.size + 1 + 1 + 1 + 1) 41 (cs zero16) := by rw [hW1.out]; exact d4.alloc _
        have ey : Blk W1 w1.heap.size 41 (cs y) := by rw [hW1.out]; exact Blk.new _ _ _
        have HBK1 : Hid (BookIs W1 F p rows (drawP rows key back tape).2) := by show BookIs _ _ _ _ _; rw [hW1.out]; exact HBK.out.below ((Below.refl _ _).alloc (Nat.le_refl _) _)
        have hF2 : Fr F w W1 := by rw [hW1.out]; exact hF1.alloc _
        clear hW1 hk1 d1 d2 d3 d4 HBK
        have k1 : W1.cell? ⟨w.heap.size + 1, 0, none⟩ = some (.string ⟨key.toArray⟩) := e1.cell 0
        have bu := built_row key x y HX.out HYL.out
        have rz : (Tryd.prog.info? 126).map (·.size) = some (rowA ⟨key, x, y⟩).size := by rw [rowA_size ⟨HX.out, HYL.out⟩]; exact rowinfo
        refine lock_go ?_
        go_wp2_with (first
          | (refine wpList_load_g (by rfl) 41 _ rfl _ _ rfl _ _ e2 Tryd.underlying41 rfl zx ?_)
          | (refine wpList_load_g (by rfl) 41 _ rfl _ _ rfl _ _ ey Tryd.underlying41 rfl zy ?_)
          | (refine wpList_build_to rfl 126 _ rfl [(0, .string ⟨key.toArray⟩), (1, .agg (cs x)), (2, .agg (cs y))] (rowA ⟨key, x, y⟩) (by simp only [List.map_toArray, List.map_cons, List.map_nil]; rfl) bu ?_)
          | (refine wpList_store_new rfl 126 _ _ rfl (rowA ⟨key, x, y⟩) _ (by first | rfl | exact hW1s.symm) rfl rfl 126 _ rz (by rw [rowA_size ⟨HX.out, HYL.out⟩]; rfl) (all_oneCell_toArray (one_row _)) ?_; refine wpList_name ?_; intro W2 hW2; refine lock_stop ?_))
        have hW2s : W2.heap.size = w1.heap.size + 2 := by rw [hW2.out]; simp; omega
        have e0' := cell_alloc (w := W1) (b := w.heap.size) (o := 0) (e0.cell 0) (.cells (rowA ⟨key, x, y⟩) 126)
        have er : Blk W2 (w1.heap.size + 1) 126 (rowA ⟨key, x, y⟩) := by rw [hW2.out]; exact Blk.new_at hW1s.symm _ _
        have HB12 : Below W1.heap.size W1 W2 := by rw [hW2.out]; exact (Below.refl _ _).alloc (Nat.le_refl _) _
        clear hW2 e0' k1
        have k1 : W2.cell? ⟨w.heap.size + 1, 0, none⟩ = some (.string ⟨key.toArray⟩) := (e1.below HB12 e1.lt).cell 0
        have k3 : W2.cell? ⟨w.heap.size + 1 + 1 + 1, 0, none⟩ = some (.bool back) := (e3.below HB12 e3.lt).cell 0
        have k2 := e2.below HB12 e2.lt
        have ky := ey.below HB12 ey.lt
        have k0 := e0.below HB12 e0.lt
        have k4 := e4.below HB12 e4.lt
        have HBK2 := Lib.hid (HBK1.out.below HB12)
        have hF3 := hF2.then_below HB12
        clear HB12 hF2 HBK1 e0 e1 e2 e3 e4 ey
        refine lock_go ?_
        cases back
        · go_wp2_with fail
          refine wp_name ?_
          intro W3 hW3
          have er3 : Blk W3 (w1.heap.size + 1) 126 (rowA r) := by rw [hW3.out, HR.out]; exact er
          have k0' : Blk W3 w.heap.size 24 #[.pointer (some ⟨p, 0, none⟩)] := by rw [hW3.out]; exact k0
          have k4' : Blk W3 (w.heap.size + 1 + 1 + 1 + 1) 41 (cs zero16) := by rw [hW3.out]; exact k4
          have ky' : Blk W3 w1.heap.size 41 (cs y) := by rw [hW3.out]; exact ky
          have HBK3 : Hid (BookIs W3 F p rows (drawP rows key false tape).2) := by show BookIs _ _ _ _ _; rw [hW3.out]; exact HBK2.out
          have hF4 : Fr F w W3 := by rw [hW3.out]; exact hF3
          have hW3s : W3.heap.size = w1.heap.size + 2 := by rw [hW3.out]; exact hW2s
          clear hW3 er k0 k1 k2 k3 k4 ky HBK2 hF3
          obtain ⟨tp3, T3, cT3, R3, cR3, j1, j2, j3, j4, j5, j6, j7, j8, j9, j10⟩ := HBK3.out
          rw [← HN.out] at j4
          have z0 := k0'.cell 0
          have z1 := j4.cell 0
          have HW3s := Lib.hid hW3s
          clear hW3s
          have rz3 : (Tryd.prog.info? 126).map (·.size) = some r.cells.length := by rw [cells_len hrok]; exact rowinfo
          have ur := Tryd.underlying126
          have z0' : W3.cell? ⟨w.heap.size, 0, none⟩ = some (.pointer (some ⟨p, 0, none⟩)) := z0
          have z1' : W3.cell? ⟨p, 0, none⟩ = some (.slice R3 k cR3) := z1
          have rgW : ∀ {W : World}, Blk W (w1.heap.size + 1) 126 (rowA r) → W.rangeAt (w1.heap.size + 1) 0 r.cells := fun h => by have := h.range 0 33; rw [show (rowA r).extract 0 (0 + 33) = rowA r by rw [Nat.zero_add, ← rowA_size hrok]; simp] at this; exact this
          have rg3 : W3.rangeAt (w1.heap.size + 1) 0 r.cells := rgW er3
          obtain ⟨ri, hri, hrz, hrs, hrb⟩ := info_parts rowinfo3
          have bs := bslice_row r.key r.inn r.out hrok.1 hrok.2 W3.drew
          have ho3 : ∀ o, (W3.drew.alloc o).ownsRow 0 126 33 (.slice R3 k cR3) k (rows.flatMap BRow.cells) := fun o => by rw [HN.out]; exact World.ownsRow.alloc j7 o
          have hnp : some p ≠ blkOf R3 := fun e => (j8 p e.symm).2.1 rfl
          have zp1 : W3.drew.cell? ⟨p, 0, none⟩ = some (.slice R3 k cR3) := z1'
          have zp2 : (W3.drew.alloc (.cells (rowA r) 126)).cell? ⟨p, 0, none⟩ = some (.slice R3 k cR3) := cell_alloc zp1 _
          have zp3 : ∀ o, (W3.alloc o).cell? ⟨p, 0, none⟩ = some (.slice R3 k cR3) := fun o => cell_alloc z1' o
          have zs0 : (W3.drew.alloc (.cells (rowA r) 126)).cell? ⟨w.heap.size, 0, none⟩ = some (.pointer (some ⟨p, 0, none⟩)) := cell_alloc z0' _
          have zsr : (W3.drew.alloc (.cells (rowA r) 126)).rangeAt (w1.heap.size + 1) 0 r.cells := World.rangeAt_alloc (w := W3.drew) (by simpa using rg3) _
          refine wp_region_held_drew (S := fun w' => w'.cell? ⟨w.heap.size, 0, none⟩ = some (.pointer (some ⟨p, 0, none⟩)) ∧ w'.rangeAt (w1.heap.size + 1) 0 r.cells) (by kernel_rfl) ⟨z0', by simpa using rg3⟩ (fun hHeld => ?_)
          refine wpAnyH_take (i := 0) (v := ?_) rfl (by kernel_rfl) (by kernel_rfl) (by kernel_rfl) (fun _ _ _ h => h) (Or.inl ⟨by rfl, ?_⟩) (by assumption) ?_
          rotate_left
          · (intro w hSw; go_simp)
            try with_reducible rfl
          simp only [Act.put, List.getElem_toArray, List.getElem_cons_succ, List.getElem_cons_zero, List.setIfInBounds_toArray, List.set_cons_zero, List.set_cons_succ]
          refine wpAnyH_take (i := 1) (v := ?_) rfl (by kernel_rfl) (by kernel_rfl) (by kernel_rfl) (fun _ _ _ h => h) (Or.inl ⟨by rfl, ?_⟩) (by assumption) ?_
          rotate_left
          · (intro w hSw; go_simp)
            try with_reducible rfl
          simp only [Act.put, List.getElem_toArray, List.getElem_cons_succ, List.getElem_cons_zero, List.setIfInBounds_toArray, List.set_cons_zero, List.set_cons_succ]
          refine wpAnyH_take (i := 2) (v := ?_) rfl (by kernel_rfl) (by kernel_rfl) (by kernel_rfl) (fun _ _ _ h => h) (Or.inl ⟨by rfl, ?_⟩) (by assumption) ?_
          rotate_left
          · (intro w hSw; go_simp)
            try with_reducible rfl
          simp only [Act.put, List.getElem_toArray, List.getElem_cons_succ, List.getElem_cons_zero, List.setIfInBounds_toArray, List.set_cons_zero, List.set_cons_succ]
          refine wpAnyH_take (i := 3) (v := ?_) rfl (by kernel_rfl) (by kernel_rfl) (by kernel_rfl) (fun _ _ _ h => h) (Or.inl ⟨by rfl, ?_⟩) (by assumption) ?_
          rotate_left
          · (intro w hSw; go_simp)
            try with_reducible rfl
          simp only [Act.put, List.getElem_toArray, List.getElem_cons_succ, List.getElem_cons_zero, List.setIfInBounds_toArray, List.set_cons_zero, List.set_cons_succ]
          refine wpAnyH_take (i := 5) (v := _) rfl (by kernel_rfl) (by kernel_rfl) (by kernel_rfl) (fun _ _ _ h => h) (yieldsIf_load_mid (by rfl) _ _ rfl _ _ rfl _ _ (by intro w hSw; (try dsimp only at hSw); go_split_ands; assumption) (by assumption) rfl (by first | assumption | (simp only [*]; done))) (by assumption) ?_
          simp only [Act.put, List.getElem_toArray, List.getElem_cons_succ, List.getElem_cons_zero, List.setIfInBounds_toArray, List.set_cons_zero, List.set_cons_succ]
          refine wpAnyH_ready (rs := [4, 6]) (by kernel_rfl) (by simp) ?_
          refine AllReadyH.cons rfl (fun K hK => ?_) (AllReadyH.cons rfl (fun K hK => ?_) AllReadyH.nil)
          rw [if_pos (by rfl)]
          go_simp
          refine hK.out _ _ hHeld (fun hHeld4 => ?_)
          clear hK K
          refine wpAnyH_ready (rs := [6]) (by kernel_rfl) (by simp) ?_
          refine AllReadyH.cons rfl (fun K hK => ?_) AllReadyH.nil
          refine step_buildSlice_run rfl _ _ _ rfl #[(0, .agg (rowA r))] _ _ (by simp only [List.map_toArray, List.map_cons, List.map_nil]; rfl) bs ?_
          simp only [Act.put, List.getElem_toArray, List.getElem_cons_succ, List.getElem_cons_zero, List.setIfInBounds_toArray, List.set_cons_zero, List.set_cons_succ]
          refine hK.out _ _ ⟨zs0, zsr⟩ (fun hHeld6 => ?_)
          clear hK K
          rotate_left
          refine step_buildSlice_run rfl _ _ _ rfl #[(0, .agg (rowA r))] _ _ (by simp only [List.map_toArray, List.map_cons, List.map_nil]; rfl) bs ?_
          simp only [Act.put, List.getElem_toArray, List.getElem_cons_succ, List.getElem_cons_zero, List.setIfInBounds_toArray, List.set_cons_zero, List.set_cons_succ]
          refine hK.out _ _ ⟨zs0, zsr⟩ (fun hHeld6 => ?_)
          clear hK K
          refine wpAnyH_ready (rs := [4]) (by kernel_rfl) (by simp) ?_
          refine AllReadyH.cons rfl (fun K hK => ?_) AllReadyH.nil
          rw [if_pos (by rfl)]
          go_simp
          refine hK.out _ _ hHeld6 (fun hHeld4 => ?_)
          clear hK K
          all_goals
            have hF0 : ∀ b, w.heap.size ≤ b → some b ≠ blkOf R3 := fun b hb e => by have := h10 b (j8 b e.symm).1; omega
            have hp0 := h10 p h1
            refine wpAnyH_ready (rs := [7]) (by kernel_rfl) (by simp) ?_
            refine AllReadyH.cons rfl (fun K hK => ?_) AllReadyH.nil
            refine step_append_lies _ rfl _ _ 74 rfl 0 126 ri _ 33 48 Tryd.underlying74 hri hrz hrs hrb rfl (by decide) (.slice R3 k cR3) k (rows.flatMap BRow.cells) rfl (ho3 _) ⟨W3.heap.size, 0, none⟩ 1 1 r.cells rfl (by rw [cells_len hrok]) (World.news_of_block (cs := rowA r) (Blk.new _ _ _)) (one_row r) (by decide) (by simp only [maxLen]; omega) (by omega) (Nat.zero_le _) (W3.heap.size + 1) (by simp) ?_
            intro g cap w4 hown4 hgrow hat hglt
            have hW3s := HW3s.out
            rw [own_blk] at hgrow hat
            have z4 := ((j4.drewN 1).alloc (.cells (rowA r) 126)).grown hgrow hnp
            have z5 := z4.cell 0
            have z6 := z4.frozen 0
            have er4 : Blk w4 (w1.heap.size + 1) 126 (rowA r) := ((er3.drewN 1).alloc _).grown hgrow (hF0 _ (by omega))
            have k04 : Blk w4 w.heap.size 24 #[.pointer (some ⟨p, 0, none⟩)] := ((k0'.drewN 1).alloc _).grown hgrow (hF0 _ (by omega))
            have er5 := er4.far (p := ⟨p, 0, none⟩) (by show w1.heap.size + 1 ≠ p; omega) (.slice (some ⟨g, 0, none⟩) (k + 1) cap)
            have k05 := k04.far (p := ⟨p, 0, none⟩) (by show w.heap.size ≠ p; omega) (.slice (some ⟨g, 0, none⟩) (k + 1) cap)
            simp only [Act.put, List.getElem_toArray, List.getElem_cons_succ, List.getElem_cons_zero, List.setIfInBounds_toArray, List.set_cons_zero, List.set_cons_succ]
            refine hK.out _ _ ⟨k04.cell 0, rgW er4⟩ (fun hHeld7 => ?_)
            clear hK K
            refine wpAnyH_take (i := 8) (v := ?_) rfl (by kernel_rfl) (by kernel_rfl) (by kernel_rfl) (fun _ _ _ h => h) (Or.inl ⟨by rfl, ?_⟩) (by assumption) ?_
            rotate_left
            · (intro w hSw; go_simp)
              try with_reducible rfl
            simp only [Act.put, List.getElem_toArray, List.getElem_cons_succ, List.getElem_cons_zero, List.setIfInBounds_toArray, List.set_cons_zero, List.set_cons_succ]
            refine wpAnyH_take (i := 9) (v := ?_) rfl (by kernel_rfl) (by kernel_rfl) (by kernel_rfl) (fun _ _ _ h => h) (Or.inl ⟨by rfl, ?_⟩) (by assumption) ?_
            rotate_left
            · (intro w hSw; go_simp)
              try with_reducible rfl
            simp only [Act.put, List.getElem_toArray, List.getElem_cons_succ, List.getElem_cons_zero, List.setIfInBounds_toArray, List.set_cons_zero, List.set_cons_succ]
            refine wpAnyH_ready (rs := [10]) (by kernel_rfl) (by simp) ?_
            refine AllReadyH.cons rfl (fun K hK => ?_) AllReadyH.nil
            rw [if_pos (by rfl)]
            go_simp
            refine hK.out _ _ ⟨k05.cell 0, rgW er5⟩ (fun hHeld8 => ?_)
            clear hK K
            refine wpAnyH_done (by kernel_rfl) ?_ _
            have ky4 : Blk w4 w1.heap.size 41 (cs y) := ((ky'.drewN 1).alloc _).grown hgrow (hF0 _ (by omega))
            have k44 : Blk w4 (w.heap.size + 1 + 1 + 1 + 1) 41 (cs zero16) := ((k4'.drewN 1).alloc _).grown hgrow (hF0 _ (by omega))
            have ky5 := ky4.far (p := ⟨p, 0, none⟩) (by show w1.heap.size ≠ p; omega) (.slice (some ⟨g, 0, none⟩) (k + 1) cap)
            have k45 := k44.far (p := ⟨p, 0, none⟩) (by show w.heap.size + 1 + 1 + 1 + 1 ≠ p; omega) (.slice (some ⟨g, 0, none⟩) (k + 1) cap)
            have hEnd := Lib.hid (ask_end (c := cs y) (nq := 1) HN.out j1 j2 j3 j4 j5 j6 j8 j9 h10 hF4 hrok hgrow hat hglt hown4 (q := w.heap.size + 1 + 1 + 1 + 1) (by omega) (by omega))
            clear hown4 hgrow hat ho3 j5 j7 z4 z5 z6 zp1 zp2 zp3 zs0 zsr rg3 bs z0' z1' z0 z1
            go_wp2_with (first
              | (refine wpList_load_g (by rfl) 41 _ rfl _ _ rfl _ _ ky5 Tryd.underlying41 rfl zy ?_)
              | (refine wpList_store_blk rfl 41 _ _ rfl _ (cs y) rfl rfl 41 _ k45 zy (by rw [cs_size, cs_size, HYL.out]; rfl) (one_cs _) ?_))
            refine bodyPost_ret (results_cellt Tryd.results37 _ _ _ (w.heap.size + 1 + 1 + 1 + 1) (cs y) 41 rfl (k45.setRow _) _ Tryd.underlying41 rfl zy) rfl ?_
            obtain ⟨F', hE1, hE2, hE3⟩ := hEnd.out
            rw [hA.out]
            exact ⟨F', hE1, hE2, hE3, .inl ⟨y, rfl, HYL.out, rfl⟩⟩
        · have bu2 := built_row key y x HYL.out HX.out
          go_wp2_with (first
            | (refine wpList_load_g (by rfl) 41 _ rfl _ _ rfl _ _ k2 Tryd.underlying41 rfl zx ?_)
            | (refine wpList_load_g (by rfl) 41 _ rfl _ _ rfl _ _ ky Tryd.underlying41 rfl zy ?_)
            | (refine wpList_build_to rfl 126 _ rfl [(0, .string ⟨key.toArray⟩), (1, .agg (cs y)), (2, .agg (cs x))] (rowA ⟨key, y, x⟩) (by simp only [List.map_toArray, List.map_cons, List.map_nil]; rfl) bu2 ?_)
            | (refine wpList_store_blk rfl 126 _ _ rfl _ (rowA ⟨key, y, x⟩) rfl rfl 126 _ er (by rw [rowA_size (r := ⟨key, y, x⟩) ⟨HYL.out, HX.out⟩]; exact rowinfo) (by rw [rowA_size (r := ⟨key, y, x⟩) ⟨HYL.out, HX.out⟩, rowA_size (r := ⟨key, x, y⟩) ⟨HX.out, HYL.out⟩]) (all_oneCell_toArray (one_row _)) ?_))
          refine wp_name ?_
          intro W3 hW3
          have er3 : Blk W3 (w1.heap.size + 1) 126 (rowA r) := by rw [hW3.out, HR.out]; exact er.setRow _
          have k0' : Blk W3 w.heap.size 24 #[.pointer (some ⟨p, 0, none⟩)] := by rw [hW3.out]; exact k0.farRow (by omega)
          have k4' : Blk W3 (w.heap.size + 1 + 1 + 1 + 1) 41 (cs zero16) := by rw [hW3.out]; exact k4.farRow (by omega)
          have ky' : Blk W3 w1.heap.size 41 (cs y) := by rw [hW3.out]; exact ky.farRow (by omega)
          have HBK3 : Hid (BookIs W3 F p rows (drawP rows key true tape).2) := by show BookIs _ _ _ _ _; rw [hW3.out]; exact HBK2.out.fr (Fr.setRow (F := fun i => i = w1.heap.size + 1) (Fr.refl _ _) (.inl rfl) _) (fun i hi e => by have := h10 i hi; omega)
          have hF4 : Fr F w W3 := by rw [hW3.out]; exact hF3.setRow (.inr (by omega)) _
          have hW3s : W3.heap.size = w1.heap.size + 2 := by rw [hW3.out]; simp; exact hW2s
          clear hW3 er k0 k1 k2 k3 k4 ky HBK2 hF3
          obtain ⟨tp3, T3, cT3, R3, cR3, j1, j2, j3, j4, j5, j6, j7, j8, j9, j10⟩ := HBK3.out
          rw [← HN.out] at j4
          have z0 := k0'.cell 0
          have z1 := j4.cell 0
          have HW3s := Lib.hid hW3s
          clear hW3s
          have rz3 : (Tryd.prog.info? 126).map (·.size) = some r.cells.length := by rw [cells_len hrok]; exact rowinfo
          have ur := Tryd.underlying126
          have z0' : W3.cell? ⟨w.heap.size, 0, none⟩ = some (.pointer (some ⟨p, 0, none⟩)) := z0
          have z1' : W3.cell? ⟨p, 0, none⟩ = some (.slice R3 k cR3) := z1
          have rgW : ∀ {W : World}, Blk W (w1.heap.size + 1) 126 (rowA r) → W.rangeAt (w1.heap.size + 1) 0 r.cells := fun h => by have := h.range 0 33; rw [show (rowA r).extract 0 (0 + 33) = rowA r by rw [Nat.zero_add, ← rowA_size hrok]; simp] at this; exact this
          have rg3 : W3.rangeAt (w1.heap.size + 1) 0 r.cells := rgW er3
          obtain ⟨ri, hri, hrz, hrs, hrb⟩ := info_parts rowinfo3
          have bs := bslice_row r.key r.inn r.out hrok.1 hrok.2 W3.drew
          have ho3 : ∀ o, (W3.drew.alloc o).ownsRow 0 126 33 (.slice R3 k cR3) k (rows.flatMap BRow.cells) := fun o => by rw [HN.out]; exact World.ownsRow.alloc j7 o
          have hnp : some p ≠ blkOf R3 := fun e => (j8 p e.symm).2.1 rfl
          have zp1 : W3.drew.cell? ⟨p, 0, none⟩ = some (.slice R3 k cR3) := z1'
          have zp2 : (W3.drew.alloc (.cells (rowA r) 126)).cell? ⟨p, 0, none⟩ = some (.slice R3 k cR3) := cell_alloc zp1 _
          have zp3 : ∀ o, (W3.alloc o).cell? ⟨p, 0, none⟩ = some (.slice R3 k cR3) := fun o => cell_alloc z1' o
          have zs0 : (W3.drew.alloc (.cells (rowA r) 126)).cell? ⟨w.heap.size, 0, none⟩ = some (.pointer (some ⟨p, 0, none⟩)) := cell_alloc z0' _
          have zsr : (W3.drew.alloc (.cells (rowA r) 126)).rangeAt (w1.heap.size + 1) 0 r.cells := World.rangeAt_alloc (w := W3.drew) (by simpa using rg3) _
          refine wp_region_held_drew (S := fun w' => w'.cell? ⟨w.heap.size, 0, none⟩ = some (.pointer (some ⟨p, 0, none⟩)) ∧ w'.rangeAt (w1.heap.size + 1) 0 r.cells) (by kernel_rfl) ⟨z0', by simpa using rg3⟩ (fun hHeld => ?_)
          refine wpAnyH_take (i := 0) (v := ?_) rfl (by kernel_rfl) (by kernel_rfl) (by kernel_rfl) (fun _ _ _ h => h) (Or.inl ⟨by rfl, ?_⟩) (by assumption) ?_
          rotate_left
          · (intro w hSw; go_simp)
            try with_reducible rfl
          simp only [Act.put, List.getElem_toArray, List.getElem_cons_succ, List.getElem_cons_zero, List.setIfInBounds_toArray, List.set_cons_zero, List.set_cons_succ]
          refine wpAnyH_take (i := 1) (v := ?_) rfl (by kernel_rfl) (by kernel_rfl) (by kernel_rfl) (fun _ _ _ h => h) (Or.inl ⟨by rfl, ?_⟩) (by assumption) ?_
          rotate_left
          · (intro w hSw; go_simp)
            try with_reducible rfl
          simp only [Act.put, List.getElem_toArray, List.getElem_cons_succ, List.getElem_cons_zero, List.setIfInBounds_toArray, List.set_cons_zero, List.set_cons_succ]
          refine wpAnyH_take (i := 2) (v := ?_) rfl (by kernel_rfl) (by kernel_rfl) (by kernel_rfl) (fun _ _ _ h => h) (Or.inl ⟨by rfl, ?_⟩) (by assumption) ?_
          rotate_left
          · (intro w hSw; go_simp)
            try with_reducible rfl
          simp only [Act.put, List.getElem_toArray, List.getElem_cons_succ, List.getElem_cons_zero, List.setIfInBounds_toArray, List.set_cons_zero, List.set_cons_succ]
          refine wpAnyH_take (i := 3) (v := ?_) rfl (by kernel_rfl) (by kernel_rfl) (by kernel_rfl) (fun _ _ _ h => h) (Or.inl ⟨by rfl, ?_⟩) (by assumption) ?_
          rotate_left
          · (intro w hSw; go_simp)
            try with_reducible rfl
          simp only [Act.put, List.getElem_toArray, List.getElem_cons_succ, List.getElem_cons_zero, List.setIfInBounds_toArray, List.set_cons_zero, List.set_cons_succ]
          refine wpAnyH_take (i := 5) (v := _) rfl (by kernel_rfl) (by kernel_rfl) (by kernel_rfl) (fun _ _ _ h => h) (yieldsIf_load_mid (by rfl) _ _ rfl _ _ rfl _ _ (by intro w hSw; (try dsimp only at hSw); go_split_ands; assumption) (by assumption) rfl (by first | assumption | (simp only [*]; done))) (by assumption) ?_
          simp only [Act.put, List.getElem_toArray, List.getElem_cons_succ, List.getElem_cons_zero, List.setIfInBounds_toArray, List.set_cons_zero, List.set_cons_succ]
          refine wpAnyH_ready (rs := [4, 6]) (by kernel_rfl) (by simp) ?_
          refine AllReadyH.cons rfl (fun K hK => ?_) (AllReadyH.cons rfl (fun K hK => ?_) AllReadyH.nil)
          rw [if_pos (by rfl)]
          go_simp
          refine hK.out _ _ hHeld (fun hHeld4 => ?_)
          clear hK K
          refine wpAnyH_ready (rs := [6]) (by kernel_rfl) (by simp) ?_
          refine AllReadyH.cons rfl (fun K hK => ?_) AllReadyH.nil
          refine step_buildSlice_run rfl _ _ _ rfl #[(0, .agg (rowA r))] _ _ (by simp only [List.map_toArray, List.map_cons, List.map_nil]; rfl) bs ?_
          simp only [Act.put, List.getElem_toArray, List.getElem_cons_succ, List.getElem_cons_zero, List.setIfInBounds_toArray, List.set_cons_zero, List.set_cons_succ]
          refine hK.out _ _ ⟨zs0, zsr⟩ (fun hHeld6 => ?_)
          clear hK K
          rotate_left
          refine step_buildSlice_run rfl _ _ _ rfl #[(0, .agg (rowA r))] _ _ (by simp only [List.map_toArray, List.map_cons, List.map_nil]; rfl) bs ?_
          simp only [Act.put, List.getElem_toArray, List.getElem_cons_succ, List.getElem_cons_zero, List.setIfInBounds_toArray, List.set_cons_zero, List.set_cons_succ]
          refine hK.out _ _ ⟨zs0, zsr⟩ (fun hHeld6 => ?_)
          clear hK K
          refine wpAnyH_ready (rs := [4]) (by kernel_rfl) (by simp) ?_
          refine AllReadyH.cons rfl (fun K hK => ?_) AllReadyH.nil
          rw [if_pos (by rfl)]
          go_simp
          refine hK.out _ _ hHeld6 (fun hHeld4 => ?_)
          clear hK K
          all_goals
            have hF0 : ∀ b, w.heap.size ≤ b → some b ≠ blkOf R3 := fun b hb e => by have := h10 b (j8 b e.symm).1; omega
            have hp0 := h10 p h1
            refine wpAnyH_ready (rs := [7]) (by kernel_rfl) (by simp) ?_
            refine AllReadyH.cons rfl (fun K hK => ?_) AllReadyH.nil
            refine step_append_lies _ rfl _ _ 74 rfl 0 126 ri _ 33 48 Tryd.underlying74 hri hrz hrs hrb rfl (by decide) (.slice R3 k cR3) k (rows.flatMap BRow.cells) rfl (ho3 _) ⟨W3.heap.size, 0, none⟩ 1 1 r.cells rfl (by rw [cells_len hrok]) (World.news_of_block (cs := rowA r) (Blk.new _ _ _)) (one_row r) (by decide) (by simp only [maxLen]; omega) (by omega) (Nat.zero_le _) (W3.heap.size + 1) (by simp) ?_
            intro g cap w4 hown4 hgrow hat hglt
            have hW3s := HW3s.out
            rw [own_blk] at hgrow hat
            have z4 := ((j4.drewN 1).alloc (.cells (rowA r) 126)).grown hgrow hnp
            have z5 := z4.cell 0
            have z6 := z4.frozen 0
            have er4 : Blk w4 (w1.heap.size + 1) 126 (rowA r) := ((er3.drewN 1).alloc _).grown hgrow (hF0 _ (by omega))
            have k04 : Blk w4 w.heap.size 24 #[.pointer (some ⟨p, 0, none⟩)] := ((k0'.drewN 1).alloc _).grown hgrow (hF0 _ (by omega))
            have er5 := er4.far (p := ⟨p, 0, none⟩) (by show w1.heap.size + 1 ≠ p; omega) (.slice (some ⟨g, 0, none⟩) (k + 1) cap)
            have k05 := k04.far (p := ⟨p, 0, none⟩) (by show w.heap.size ≠ p; omega) (.slice (some ⟨g, 0, none⟩) (k + 1) cap)
            simp only [Act.put, List.getElem_toArray, List.getElem_cons_succ, List.getElem_cons_zero, List.setIfInBounds_toArray, List.set_cons_zero, List.set_cons_succ]
            refine hK.out _ _ ⟨k04.cell 0, rgW er4⟩ (fun hHeld7 => ?_)
            clear hK K
            refine wpAnyH_take (i := 8) (v := ?_) rfl (by kernel_rfl) (by kernel_rfl) (by kernel_rfl) (fun _ _ _ h => h) (Or.inl ⟨by rfl, ?_⟩) (by assumption) ?_
            rotate_left
            · (intro w hSw; go_simp)
              try with_reducible rfl
            simp only [Act.put, List.getElem_toArray, List.getElem_cons_succ, List.getElem_cons_zero, List.setIfInBounds_toArray, List.set_cons_zero, List.set_cons_succ]
            refine wpAnyH_take (i := 9) (v := ?_) rfl (by kernel_rfl) (by kernel_rfl) (by kernel_rfl) (fun _ _ _ h => h) (Or.inl ⟨by rfl, ?_⟩) (by assumption) ?_
            rotate_left
            · (intro w hSw; go_simp)
              try with_reducible rfl
            simp only [Act.put, List.getElem_toArray, List.getElem_cons_succ, List.getElem_cons_zero, List.setIfInBounds_toArray, List.set_cons_zero, List.set_cons_succ]
            refine wpAnyH_ready (rs := [10]) (by kernel_rfl) (by simp) ?_
            refine AllReadyH.cons rfl (fun K hK => ?_) AllReadyH.nil
            rw [if_pos (by rfl)]
            go_simp
            refine hK.out _ _ ⟨k05.cell 0, rgW er5⟩ (fun hHeld8 => ?_)
            clear hK K
            refine wpAnyH_done (by kernel_rfl) ?_ _
            have ky4 : Blk w4 w1.heap.size 41 (cs y) := ((ky'.drewN 1).alloc _).grown hgrow (hF0 _ (by omega))
            have k44 : Blk w4 (w.heap.size + 1 + 1 + 1 + 1) 41 (cs zero16) := ((k4'.drewN 1).alloc _).grown hgrow (hF0 _ (by omega))
            have ky5 := ky4.far (p := ⟨p, 0, none⟩) (by show w1.heap.size ≠ p; omega) (.slice (some ⟨g, 0, none⟩) (k + 1) cap)
            have k45 := k44.far (p := ⟨p, 0, none⟩) (by show w.heap.size + 1 + 1 + 1 + 1 ≠ p; omega) (.slice (some ⟨g, 0, none⟩) (k + 1) cap)
            have hEnd := Lib.hid (ask_end (c := cs y) (nq := 1) HN.out j1 j2 j3 j4 j5 j6 j8 j9 h10 hF4 hrok hgrow hat hglt hown4 (q := w.heap.size + 1 + 1 + 1 + 1) (by omega) (by omega))
            clear hown4 hgrow hat ho3 j5 j7 z4 z5 z6 zp1 zp2 zp3 zs0 zsr rg3 bs z0' z1' z0 z1
            go_wp2_with (first
              | (refine wpList_load_g (by rfl) 41 _ rfl _ _ rfl _ _ ky5 Tryd.underlying41 rfl zy ?_)
              | (refine wpList_store_blk rfl 41 _ _ rfl _ (cs y) rfl rfl 41 _ k45 zy (by rw [cs_size, cs_size, HYL.out]; rfl) (one_cs _) ?_))
            refine bodyPost_ret (results_cellt Tryd.results37 _ _ _ (w.heap.size + 1 + 1 + 1 + 1) (cs y) 41 rfl (k45.setRow _) _ Tryd.underlying41 rfl zy) rfl ?_
            obtain ⟨F', hE1, hE2, hE3⟩ := hEnd.out
            rw [hA.out]
            exact ⟨F', hE1, hE2, hE3, .inl ⟨y, rfl, HYL.out, rfl⟩⟩
      · have hA : Hid (askP rows tape key x back = (none, rows, (drawP rows key back tape).2)) := by
          show _ = _
          unfold askP
          rw [hfind.out]
          obtain ⟨o, t, h⟩ : ∃ o t, drawP rows key back tape = (o, t) := ⟨_, _, rfl⟩
          rw [h] at hy ⊢
          simp only at hy
          subst hy
          rfl
        have HBK := Lib.hid (hbook1 _ ht')
        clear hbook1 hy g0' g1 g3 g5
        obtain ⟨Tv, uv, rfl⟩ : ∃ T u, v = .iface T u := by cases hv <;> exact ⟨_, _, rfl⟩
        go_wp2_with (first
          | (refine wpList_store_new rfl 41 _ _ rfl (cs zero16) _ (by first | rfl | simp) rfl rfl 41 _ zz rfl (one_cs _) ?_)
          | (refine wpList_load_row rfl 41 _ rfl w1.heap.size rfl 41 (cs zero16) (0, 0) _ (Blk.new _ _ _) Tryd.underlying41 rfl zz ?_)
          | (refine wpList_store_blk rfl 41 _ _ rfl _ (cs zero16) rfl rfl 41 _ (d4.alloc _) zz rfl (one_cs _) ?_))
        have hS := only_of_setRow (w1.alloc (.cells (cs zero16) 41)) (w.heap.size + 1 + 1 + 1 + 1) (cs zero16)
        have hvE : ErrIs ((w1.alloc (.cells (cs zero16) 41)).setRow (w.heap.size + 1 + 1 + 1 + 1) (cs zero16)) 13 (.iface Tv uv) := by
          cases hv with
          | errno => exact .errno
          | fault g at_ hg =>
            refine .fault g at_ ((hg.alloc _).farRow ?_)
            rintro rfl
            have := hg.symm.trans d4
            simp at this
        have hFE : Fr (fun i => i = w.heap.size + 1 + 1 + 1 + 1) w1 ((w1.alloc (.cells (cs zero16) 41)).setRow (w.heap.size + 1 + 1 + 1 + 1) (cs zero16)) :=
          Fr.setRow (F := fun i => i = w.heap.size + 1 + 1 + 1 + 1) ((Fr.refl _ _).alloc _) (.inl rfl) _
        refine bodyPost_ret (results_cellt Tryd.results37 _ _ _ (w.heap.size + 1 + 1 + 1 + 1) (cs zero16) 41 rfl ((d4.alloc _).setRow _) _ Tryd.underlying41 rfl zz) rfl ?_
        rw [hA.out]
        exact ⟨F, fun _ h => .inl h, HBK.out.fr hFE (fun i hi e => by have := h10 i hi; omega), hF1.trans hFE (fun i e => .inr (by omega)), .inr ⟨rfl, _, rfl, hvE⟩⟩
end Go.Proofs.YtbmhmohpnhckgaaDoor
