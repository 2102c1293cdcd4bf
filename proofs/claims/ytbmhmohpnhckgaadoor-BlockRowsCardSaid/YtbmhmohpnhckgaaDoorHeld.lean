/- small words of mine for a region that draws its order and holds several loads and stores of long arrays: each load taken first under a condition S (the kit's laws of RegionHeld, MidRow), the stores in their one order -/
import Derived.Deep.RegionHeld3
import Derived.Test.YtbmhmohpnhckgaaDoorMem
namespace Go.Proofs.YtbmhmohpnhckgaaDoor
open Go
theorem wp_name {P : Program} {c : Code} {Q : Exit → Act → World → Prop} {a : Act} {w0 : World} (h : ∀ W, RowKit.Hid (W = w0) → c.wp P Q a W) : c.wp P Q a w0 := h w0 rfl
theorem wpList_name {P : Program} {ops : Array Oper} {rest : List Oper} {Q : Exit → Act → World → Prop} {a : Act} {w0 : World} (h : ∀ W, RowKit.Hid (W = w0) → wpList P ops Q rest a W) : wpList P ops Q rest a w0 := h w0 rfl
theorem Blk.there {w : World} {g : Nat} {t : TypeId} {c : Array Value} (h : Blk w g t c) (o n : Nat) (hs : o + n ≤ c.size) : w.there g o n := fun j hj => by
  rw [h.cell, h.frozen]
  refine ⟨?_, rfl⟩
  rw [Array.getElem?_eq_getElem (by omega)]; rfl
theorem Blk.range {w : World} {g : Nat} {t : TypeId} {c : Array Value} (h : Blk w g t c) (o n : Nat) : w.rangeAt g o (c.extract o (o + n)).toList := World.rangeAt_of_block h o n
theorem Blk.new_at {w : World} {n : Nat} (h : n = w.heap.size) (t : TypeId) (c : Array Value) : Blk (w.alloc (.cells c t)) n t c := by subst h; exact Blk.new _ _ _
theorem one_map (l : List UInt8) : ∀ v ∈ l.map bv, v.oneCell' = true := by intro v hv; simp only [List.mem_map] at hv; obtain ⟨x, _, rfl⟩ := hv; rfl
theorem only_setCells {a : World} {g : Nat} : ∀ (l : List Value) (o : Nat) {w : World}, a.grownBy w (some g) → a.grownBy (w.setCells g o l) (some g)
  | [], _, _, h => h
  | v :: r, o, _, h => only_setCells r (o + 1) (only_setCell h (.inl rfl) v)
theorem below_setCells {B : Nat} {a : World} {g : Nat} (hp : B ≤ g) : ∀ (l : List Value) (o : Nat) {w : World}, RowKit.Below B a w → RowKit.Below B a (w.setCells g o l)
  | [], _, _, h => h
  | v :: r, o, _, h => below_setCells hp r (o + 1) (h.setCell hp v)
theorem results_cell2 {fn : Func} {p q : Tmp} {ty ty' : TypeId} (h : fn.results = #[.cell p ty, .cell q ty']) (tmps : Array Value) (P : Program) (w : World) (b1 b2 : Nat) (c1 c2 : List Value)
    (hp : tmps.getD p undef = .pointer (some ⟨b1, 0, none⟩)) (hq : tmps.getD q undef = .pointer (some ⟨b2, 0, none⟩)) (d d' : TypeDesc) (r1 : w.rangeAt b1 0 c1) (r2 : w.rangeAt b2 0 c2)
    (hu : P.underlying ty = some d) (hd : d.isRow = true) (hi : (P.info? ty).map (·.size) = some c1.length) (hu' : P.underlying ty' = some d') (hd' : d'.isRow = true) (hi' : (P.info? ty').map (·.size) = some c2.length) :
    (results fn tmps).run P w = .ok (.tuple #[.agg c1.toArray, .agg c2.toArray]) w := by
  simp only [results, h]
  have e : ∀ b, (asAddr (.pointer (some ⟨b, 0, none⟩))).run P w = .ok ⟨b, 0, none⟩ w := fun _ => rfl
  simp only [Array.getD_eq_getD_getElem?] at hp hq
  simp [Sem.run_bind, Result.andThen, hp, hq, e, run_loadVar_mid w b1 0 ty c1 d r1 hu hd hi, run_loadVar_mid w b2 0 ty' c2 d' r2 hu' hd' hi']
theorem results_cellt {fn : Func} {p u : Tmp} {ty : TypeId} (h : fn.results = #[.cell p ty, .tmp u]) (tmps : Array Value) (P : Program) (w : World) (b : Nat) (c : Array Value) (t : TypeId) (hp : tmps.getD p undef = .pointer (some ⟨b, 0, none⟩))
    (hb : Blk w b t c) (d : TypeDesc) (hu : P.underlying ty = some d) (hd : d.isRow = true) (hi : (P.info? ty).map (·.size) = some c.size) :
    (results fn tmps).run P w = .ok (.tuple #[.agg c, tmps.getD u undef]) w := by
  simp only [results, h]
  have e : (asAddr (.pointer (some ⟨b, 0, none⟩))).run P w = .ok ⟨b, 0, none⟩ w := rfl
  have hr : w.rangeAt b 0 c.toList := by have := hb.range 0 c.size; simpa using this
  have hl := run_loadVar_mid (P := P) w b 0 ty c.toList d hr hu hd (by simpa using hi)
  simp only [Array.getD_eq_getD_getElem?] at hp
  simp [Sem.run_bind, Result.andThen, hp, e, hl]
/-- the walk stands still at a goal behind this lock -/
def Lock (p : Prop) : Prop := p
theorem lock_stop {p : Prop} (h : Lock p) : p := h
theorem lock_go {p : Prop} (h : p) : Lock p := h
theorem load_mid_at {P : Program} {w : World} {b o : Nat} {ty : TypeId} {c : Array Value} {d : TypeDesc} (hc : w.rangeAt b o c.toList) (hu : P.underlying ty = some d) (hd : d.isRow = true) (hi : (P.info? ty).map (·.size) = some c.size) :
    (Instr.loadAt ty (.pointer (some ⟨b, o, none⟩))).run P w = .ok (.agg c) w := by
  have := run_loadAt_mid (P := P) w b o ty c.toList d hc hu hd (by simpa using hi)
  simpa using this
theorem load_at {P : Program} {w : World} {b : Nat} {t ty : TypeId} {c : Array Value} {d : TypeDesc} (hb : Blk w b t c) (hu : P.underlying ty = some d) (hd : d.isRow = true) (hi : (P.info? ty).map (·.size) = some c.size) :
    (Instr.loadAt ty (.pointer (some ⟨b, 0, none⟩))).run P w = .ok (.agg c) w :=
  load_mid_at (by have := hb.range 0 c.size; simpa using this) hu hd hi
theorem wpList_build_to {P : Program} {ops : Array Oper} {rest : List Oper} {o : Oper} {a : Act} {w : World} {Q : Exit → Act → World → Prop} (hg : o.guard = none) (t : TypeId) (parts : Array (Nat × Operand)) (ho : o.op = .build t parts) (L : List (Nat × Value)) (cells : Array Value)
    (hp : (parts.map fun (i, x) => (i, a.eval x)).toList = L) (hb : P.built t L = some cells)
    (h : wpList P ops Q rest (a.put o.dst (.agg cells)) w) : wpList P ops Q (o :: rest) a w :=
  wpList_build hg t parts ho (by rw [hp, hb]; rfl) (by rw [hp, hb]; exact h)
theorem wpList_buildSlice_run {P : Program} {ops : Array Oper} {rest : List Oper} {o : Oper} {a : Act} {w : World} {Q : Exit → Act → World → Prop} (hg : o.guard = none) (t : TypeId) (n : Nat) (parts : Array (Nat × Operand)) (ho : o.op = .buildSlice t n parts) (L : Array (Nat × Value)) (v : Value) (w' : World)
    (hp : (parts.map fun (i, x) => (i, a.eval x)) = L) (hr : (Instr.buildSlice t n L).run P w = .ok v w')
    (h : wpList P ops Q rest (a.put o.dst v) w') : wpList P ops Q (o :: rest) a w :=
  wpList_plain hg fun _ hK => by
    unfold Oper.wp execOp
    simp only [ho, Sem.run_bind, hp, hr, Result.andThen_ok]
    exact hK _ _ h
/-- a guarded load of a whole array, its guard known to hold -/
theorem wpList_load_g {P : Program} {ops : Array Oper} {rest : List Oper} {op : Oper} {a : Act} {w : World} {Q : Exit → Act → World → Prop} (hw : Region.wanted op (yielded ops a.tmps) = true) (ty : TypeId) (x : Operand) (ho : op.op = .load ty x)
    (b : Nat) (t : TypeId) (hx : a.eval x = .pointer (some ⟨b, 0, none⟩)) (c : Array Value) (d : TypeDesc) (hb : Blk w b t c)
    (hu : P.underlying ty = some d) (hd : d.isRow = true) (hi : (P.info? ty).map (·.size) = some c.size)
    (h : wpList P ops Q rest (a.put op.dst (.agg c)) w) : wpList P ops Q (op :: rest) a w :=
  wpList_step fun K hK => by
    rw [if_pos hw]
    have hr : w.rangeAt b 0 c.toList := by have := hb.range 0 c.size; simpa using this
    exact wp_load_mid ty x ho b 0 hx c.toList d hr hu hd (by simpa using hi) (hK _ _ (by simpa using h))
theorem step_buildSlice_run {P : Program} {ops : Array Oper} {o : Oper} {a : Act} {w : World} {K : Act → World → Prop} {Q : Exit → Act → World → Prop} {E : Prop} (hg : o.guard = none) (t : TypeId) (n : Nat) (parts : Array (Nat × Operand)) (ho : o.op = .buildSlice t n parts) (L : Array (Nat × Value)) (v : Value) (w' : World)
    (hp : (parts.map fun (i, x) => (i, a.eval x)) = L) (hr : (Instr.buildSlice t n L).run P w = .ok v w')
    (h : K (a.put o.dst v) w') : if Region.wanted o (yielded ops a.tmps) = true then Oper.wp P o a w K Q else E := by
  rw [if_pos (by simp [Region.wanted, hg])]
  unfold Oper.wp execOp
  simp only [ho, Sem.run_bind, hp, hr, Result.andThen_ok]
  exact h
end Go.Proofs.YtbmhmohpnhckgaaDoor
