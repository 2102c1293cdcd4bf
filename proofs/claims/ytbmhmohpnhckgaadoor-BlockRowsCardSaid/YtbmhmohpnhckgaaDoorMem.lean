/- words for memory: arrays and slices of bytes -/
import Derived.Below
import Derived.Laws.OwnMore
import Derived.Deep.AppendLies
import Derived.Deep.Draws
import Derived.Laws.Rows
import Derived.WalkKit
import Derived.Lib.Hide
import Derived.Laws.BitsAllLaws
import Derived.Deep.WholeRow
namespace Go.Proofs.YtbmhmohpnhckgaaDoor
open Go.RowKit
theorem block_of_add (a : Addr) (n : Nat) : (a.add n).block = a.block := by unfold Addr.add; split <;> rfl
theorem add_of_add (a : Addr) (i j : Nat) : (a.add i).add j = a.add (i + j) := by
  unfold Addr.add
  by_cases hi : i = 0 <;> by_cases hj : j = 0 <;> simp [hi, hj, Nat.add_assoc]
theorem ret_int {k : IntKind} {a b : Int} (h : a = b) : Ending.returned (.int k a) = .returned (.int k b) := by rw [h]
theorem below_drewN {B : Nat} {a w : World} (h : Below B a w) (n : Nat) : Below B a (w.drewN n) := ⟨h.os, h.tape, h.output, h.size, h.block⟩
/-- a byte as a value -/
def bv (x : UInt8) : Value := .int .u8 (x.toNat : Int)
theorem bv_def (x : UInt8) : bv x = .int .u8 (x.toNat : Int) := rfl
def cs (l : List UInt8) : Array Value := (l.map bv).toArray
theorem cs_size (l : List UInt8) : (cs l).size = l.length := by simp [cs]
theorem cs_get (l : List UInt8) (i : Nat) : (cs l)[i]? = (l[i]?).map bv := by simp [cs]
theorem cs_set (l : List UInt8) (i : Nat) (x : UInt8) : (cs l).setIfInBounds i (bv x) = cs (l.set i x) := by
  simp [cs, List.map_set]
/-- block g is known whole -/
def Blk (w : World) (g : Nat) (t : TypeId) (c : Array Value) : Prop := w.heap[g]? = some (.cells c t (0, 0))
section
variable {w w' : World} {g : Nat} {t : TypeId} {c : Array Value}
theorem Blk.lt (h : Blk w g t c) : g < w.heap.size := by
  rcases Nat.lt_or_ge g w.heap.size with hlt | hge
  · exact hlt
  · unfold Blk at h; rw [Array.getElem?_eq_none hge] at h; cases h
theorem Blk.cell (h : Blk w g t c) (i : Nat) : w.cell? ⟨g, i, none⟩ = c[i]? := cell_of_row w g i c t (0, 0) h
theorem Blk.frozen (h : Blk w g t c) (i : Nat) : w.frozen? ⟨g, i, none⟩ = false := by
  unfold Blk at h
  simp [World.frozen?, h]
theorem Blk.new (w : World) (t : TypeId) (c : Array Value) : Blk (w.alloc (.cells c t)) w.heap.size t c := heap_alloc_new w _
theorem Blk.drew (h : Blk w g t c) : Blk w.drew g t c := h
theorem Blk.drewN (h : Blk w g t c) (n : Nat) : Blk (w.drewN n) g t c := h
theorem Blk.alloc (h : Blk w g t c) (o : Obj) : Blk (w.alloc o) g t c := (Below.heap_alloc w o g h.lt).trans h
theorem Blk.set_ (h : Blk w g t c) (i : Nat) (u : Value) : Blk (w.setCell ⟨g, i, none⟩ u) g t (c.setIfInBounds i u) := by
  unfold Blk at h ⊢
  simp [World.setCell, Array.getElem?_modify, h]
theorem Blk.far (h : Blk w g t c) {p : Addr} (hp : g ≠ p.block) (u : Value) : Blk (w.setCell p u) g t c := (Below.heap_setCell w p u g hp).trans h
theorem Blk.below {B : Nat} (h : Blk w g t c) (hb : Below B w w') (hg : g < B) : Blk w' g t c := (hb.block g hg).trans h
theorem Blk.grown {row : Option Nat} (h : Blk w g t c) (hb : w.grownBy w' row) (hg : some g ≠ row) : Blk w' g t c := (hb.block g h.lt hg).trans h
end
theorem only_refl (w : World) (row : Option Nat) : w.grownBy w row := ⟨rfl, rfl, rfl, Nat.le_refl _, fun _ _ _ => rfl⟩
theorem only_trans {a b c : World} {row : Option Nat} (h : a.grownBy b row) (k : b.grownBy c row) : a.grownBy c row :=
  ⟨k.os.trans h.os, k.tape.trans h.tape, k.output.trans h.output, Nat.le_trans h.size k.size, fun i hi hn => (k.block i (Nat.lt_of_lt_of_le hi h.size) hn).trans (h.block i hi hn)⟩
theorem only_drewN {a w : World} {row : Option Nat} (h : a.grownBy w row) (n : Nat) : a.grownBy (w.drewN n) row := ⟨h.os, h.tape, h.output, h.size, h.block⟩
theorem only_drew {a w : World} {row : Option Nat} (h : a.grownBy w row) : a.grownBy w.drew row := ⟨h.os, h.tape, h.output, h.size, h.block⟩
theorem only_alloc {a w : World} {row : Option Nat} (h : a.grownBy w row) (o : Obj) : a.grownBy (w.alloc o) row :=
  ⟨h.os, h.tape, h.output, Nat.le_trans h.size (by simp), fun i hi hne => (Below.heap_alloc w o i (Nat.lt_of_lt_of_le hi h.size)).trans (h.block i hi hne)⟩
theorem only_setCell {a w : World} {g : Nat} (h : a.grownBy w (some g)) {p : Addr} (hp : p.block = g ∨ a.heap.size ≤ p.block) (u : Value) : a.grownBy (w.setCell p u) (some g) :=
  ⟨h.os, h.tape, h.output, by simpa [World.setCell] using h.size, fun i hi hne => (Below.heap_setCell w p u i (by
    rintro rfl
    rcases hp with hp | hp
    · exact hne (by rw [hp])
    · omega)).trans (h.block i hi hne)⟩
theorem only_of_below {a w : World} (h : Below a.heap.size a w) (row : Option Nat) : a.grownBy w row := ⟨h.os, h.tape, h.output, h.size, fun i hi _ => h.block i hi⟩
/-- a write into block g alone, seen from below g -/
theorem below_of_only {a w : World} {g : Nat} (h : a.grownBy w (some g)) (hg : g ≤ a.heap.size) : Below g a w :=
  ⟨h.os, h.tape, h.output, h.size, fun i hi => h.block i (by omega) (by rintro e; injection e with e; omega)⟩
theorem below_step {B : Nat} {a b c : World} (h : Below B a b) (k : Below b.heap.size b c) (hB : B ≤ b.heap.size) : Below B a c := h.trans (k.mono hB)
/-- a slice of bytes that reads as a list: '.slice A l.length c' -/
def Rd (w : World) (A : Option Addr) (l : List UInt8) : Prop :=
  0 < l.length → ∃ ad, A = some ad ∧ ad.block < w.heap.size ∧ ad.spot = none ∧ ∀ j x, l[j]? = some x → w.cell? (ad.add j) = some (bv x)
section
variable {w w' : World} {A : Option Addr} {l : List UInt8}
theorem Rd.nil (w : World) (A : Option Addr) : Rd w A [] := fun h => absurd h (by simp)
theorem Rd.keep (h : Rd w A l) (hs : w.heap.size ≤ w'.heap.size) (hk : ∀ ad, A = some ad → w'.heap[ad.block]? = w.heap[ad.block]?) : Rd w' A l := fun hn => by
  obtain ⟨ad, e, hb, hs', hc⟩ := h hn
  exact ⟨ad, e, by omega, hs', fun j x hx => (World.cell?_of_block (w := w) (by rw [block_of_add]; exact hk ad e)).trans (hc j x hx)⟩
theorem Rd.below (h : Rd w A l) (hb : Below w.heap.size w w') : Rd w' A l := fun hn => by
  obtain ⟨ad, e, hlt, hs', hc⟩ := h hn
  exact ⟨ad, e, by have := hb.size; omega, hs', fun j x hx => (World.cell?_of_block (w := w) (by rw [block_of_add]; exact hb.block _ hlt)).trans (hc j x hx)⟩
theorem Rd.only {g : Nat} (h : Rd w A l) (hb : w.grownBy w' (some g)) (hne : ∀ ad, A = some ad → ad.block ≠ g) : Rd w' A l := fun hn => by
  obtain ⟨ad, e, hlt, hs', hc⟩ := h hn
  exact ⟨ad, e, by have := hb.size; omega, hs', fun j x hx => (World.cell?_of_block (w := w) (by rw [block_of_add]; exact hb.block _ hlt (by rintro e2; injection e2 with e2; exact hne ad e e2))).trans (hc j x hx)⟩
theorem Rd.drew (h : Rd w A l) : Rd w.drew A l := h
theorem Rd.drewN (h : Rd w A l) (n : Nat) : Rd (w.drewN n) A l := h
theorem Rd.alloc (h : Rd w A l) (o : Obj) : Rd (w.alloc o) A l := h.below ((Below.refl _ _).alloc (Nat.le_refl _) o)
theorem Rd.at_ {k : Nat} (h : Rd w A l) (hk : k < l.length) : ∃ ad, A = some ad ∧ ad.block < w.heap.size ∧ ad.spot = none ∧ w.cell? (ad.add k) = some (bv l[k]) := by
  obtain ⟨ad, e, hb, hs, hc⟩ := h (by omega)
  exact ⟨ad, e, hb, hs, hc k _ (List.getElem?_eq_getElem hk)⟩
end
theorem add_mk (b o n : Nat) : (⟨b, o, none⟩ : Addr).add n = ⟨b, o + n, none⟩ := by
  unfold Addr.add
  by_cases h : n = 0
  · subst h; simp
  · rw [if_neg h]
/-- a slice of bytes that is not empty, taken apart -/
theorem Rd.open_ {w : World} {A : Option Addr} {l : List UInt8} (h : Rd w A l) (hn : 0 < l.length) :
    ∃ b o, A = some ⟨b, o, none⟩ ∧ b < w.heap.size ∧ ∀ i, i < l.length → w.cell? ⟨b, o + i, none⟩ = some (.int .u8 ((l[i]?.getD 0).toNat : Int)) := by
  obtain ⟨⟨b, o, sp⟩, e, hb, hs, hc⟩ := h hn
  simp only at hs hb
  subst hs
  refine ⟨b, o, e, hb, fun i hi => ?_⟩
  have h1 := hc i _ (List.getElem?_eq_getElem hi)
  rw [add_mk] at h1
  rw [h1, List.getElem?_eq_getElem hi]; rfl
theorem only_cell {w w' : World} {g : Nat} (h : w.grownBy w' (some g)) {b o : Nat} {v : Value} (hne : b ≠ g) (hc : w.cell? ⟨b, o, none⟩ = some v) : w'.cell? ⟨b, o, none⟩ = some v :=
  h.cell (a := ⟨b, o, none⟩) hc (by rintro e; injection e with e; exact hne e)
/-- bits of bytes -/
theorem u8_bits (op : BinOp) (f : Nat → Nat → Nat) (g : UInt8 → UInt8 → UInt8) (hg : ∀ a b, (g a b).toNat = f a.toNat b.toNat)
    (h : ∀ a b : Nat, a < 256 → b < 256 → bits op .u8 (a : Int) (b : Int) = ((f a b : Nat) : Int)) (a b : UInt8) : bits op .u8 (a.toNat : Int) (b.toNat : Int) = ((g a b).toNat : Int) := by
  rw [hg]; exact h _ _ a.toNat_lt b.toNat_lt
theorem u8_bits_xor (a b : UInt8) : bits .xor .u8 (a.toNat : Int) (b.toNat : Int) = ((a ^^^ b).toNat : Int) :=
  u8_bits .xor (· ^^^ ·) (· ^^^ ·) (fun a b => UInt8.toNat_xor a b) u8_xor_nat a b
theorem u8_bits_and (a b : UInt8) : bits .and .u8 (a.toNat : Int) (b.toNat : Int) = ((a &&& b).toNat : Int) :=
  u8_bits .and (· &&& ·) (· &&& ·) (fun a b => UInt8.toNat_and a b) u8_and_nat a b
theorem u8_bits_or (a b : UInt8) : bits .or .u8 (a.toNat : Int) (b.toNat : Int) = ((a ||| b).toNat : Int) :=
  u8_bits .or (· ||| ·) (· ||| ·) (fun a b => UInt8.toNat_or a b) u8_or_nat a b
section
variable {P : Program}
/-- a whole array into the block that was made last -/
theorem wpList_store_new {ops : Array Oper} {rest : List Oper} {o : Oper} {a : Act} {w0 : World} {Q : Exit → Act → World → Prop} (hgd : o.guard = none) (ty : TypeId) (x y : Operand) (ho : o.op = .store ty x y)
    (cells : Array Value) (n : Nat) (hn : n = w0.heap.size) (hx : a.eval x = .pointer (some ⟨n, 0, none⟩)) (hy : a.eval y = .agg cells)
    (t : TypeId) (old : Array Value) (hi : (P.info? ty).map (·.size) = some cells.size)
    (hold : old.size = cells.size) (h1 : cells.all (·.oneCell') = true)
    (h : wpList P ops Q rest (a.put o.dst undef) (w0.alloc (.cells cells t))) : wpList P ops Q (o :: rest) a (w0.alloc (.cells old t)) :=
  wpList_plain hgd fun _ hK => wp_store_row ty x y ho n cells hx hy t old (by rw [hn]; exact heap_alloc_last w0 _) hi hold h1 (by rw [hn, World.setRow_alloc_new]; exact hK _ _ h)
/-- a whole array into a block that is known whole -/
theorem wpList_store_blk {ops : Array Oper} {rest : List Oper} {o : Oper} {a : Act} {w : World} {Q : Exit → Act → World → Prop} (hgd : o.guard = none) (ty : TypeId) (x y : Operand) (ho : o.op = .store ty x y)
    (g : Nat) (cells : Array Value) (hx : a.eval x = .pointer (some ⟨g, 0, none⟩)) (hy : a.eval y = .agg cells)
    (t : TypeId) (old : Array Value) (hg : w.heap[g]? = some (.cells old t (0, 0))) (hi : (P.info? ty).map (·.size) = some cells.size)
    (hold : old.size = cells.size) (h1 : cells.all (·.oneCell') = true)
    (h : wpList P ops Q rest (a.put o.dst undef) (w.setRow g cells)) : wpList P ops Q (o :: rest) a w :=
  wpList_plain hgd fun _ hK => wp_store_row ty x y ho g cells hx hy t old hg hi hold h1 (hK _ _ h)
end
theorem one_cs (l : List UInt8) : (cs l).all (·.oneCell') = true := by
  rw [Array.all_eq_true_iff_forall_mem]
  intro v hv
  simp only [cs, List.mem_toArray, List.mem_map] at hv
  obtain ⟨x, _, rfl⟩ := hv
  rfl
theorem Blk.setRow {w : World} {g : Nat} {t : TypeId} {c : Array Value} (h : Blk w g t c) (c' : Array Value) : Blk (w.setRow g c') g t c' := by
  unfold Blk at h ⊢
  simp [World.setRow, Array.getElem?_modify, h]
theorem setRow_other' (w : World) (g k : Nat) (c : Array Value) (h : k ≠ g) : (w.setRow g c).heap[k]? = w.heap[k]? := by
  simp only [World.setRow, Array.getElem?_modify]
  rw [if_neg (fun e => h e.symm)]
theorem Blk.farRow {w : World} {g g' : Nat} {t : TypeId} {c c' : Array Value} (h : Blk w g t c) (hn : g ≠ g') : Blk (w.setRow g' c') g t c := (setRow_other' w g' g c' hn).trans h
theorem only_setRow {a w : World} {g : Nat} (h : a.grownBy w (some g)) {g' : Nat} (hp : g' = g ∨ a.heap.size ≤ g') (c : Array Value) : a.grownBy (w.setRow g' c) (some g) :=
  ⟨h.os, h.tape, h.output, by simpa using h.size, fun i hi hne => (setRow_other' w g' i c (by
    rintro rfl
    rcases hp with hp | hp
    · exact hne (by rw [hp])
    · omega)).trans (h.block i hi hne)⟩
theorem below_setRow' {B : Nat} {a w : World} (h : Below B a w) {g : Nat} (hp : B ≤ g) (c : Array Value) : Below B a (w.setRow g c) :=
  h.trans ⟨rfl, rfl, rfl, by simp, fun i hi => setRow_other' w g i c (by omega)⟩
theorem below_row {B : Nat} {a w : World} (h : Below B a w) {g : Nat} (hp : B ≤ g) (c : Array Value) : Below B a (w.setRow g c) := below_setRow' h hp c
theorem only_of_setRow (w : World) (g : Nat) (c : Array Value) : w.grownBy (w.setRow g c) (some g) := only_setRow (only_refl _ _) (.inl rfl) c
theorem only_of_setCell (w : World) (p : Addr) (u : Value) : w.grownBy (w.setCell p u) (some p.block) := only_setCell (only_refl _ _) (.inl rfl) u
/-- a byte of a string -/
def byteAt (s : ByteArray) (j : Nat) : UInt8 := s.data.toList.getD j 0
theorem idx_str {P : Program} {t : TypeId} (h : P.underlying t = some .string) (s : ByteArray) (i : Int) (j : Nat) (hi : i = j) (hj : j < s.size) (w : World) :
    (Instr.index t (.string s) (.int .i64 i)).run P w = .ok (.int .u8 ((byteAt s j).toNat : Int)) w := by
  subst hi
  have hj2 : j < s.data.toList.length := by simpa using hj
  have e : s[j]? = some (byteAt s j) := by
    unfold byteAt
    rw [List.getD_eq_getElem?_getD, List.getElem?_eq_getElem hj2]
    simp only [Option.getD_some]
    rw [getElem?_pos s j hj]
    rfl
  simp [Instr.index, asIntOf, run_underlying h, e]
end Go.Proofs.YtbmhmohpnhckgaaDoor
