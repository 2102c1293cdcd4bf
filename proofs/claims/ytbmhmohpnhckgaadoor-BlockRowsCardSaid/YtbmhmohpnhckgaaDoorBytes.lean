/- byte slices that the call itself makes: append; literals; what they read as -/
import Derived.Test.YtbmhmohpnhckgaaDoorProg
import Derived.Test.YtbmhmohpnhckgaaDoorMem
import Derived.OwnWalk
import Derived.Maps.AppendAt
import Derived.Deep.AppendLies
import Derived.RegionTactic
import Derived.KernelRfl
namespace Go.Proofs.YtbmhmohpnhckgaaDoor
open Go.RowKit
theorem byteinfo : (Tryd.prog.info? 5).map (fun i => (i.zero, i.size, i.bytes)) = some (some (.int .u8 0), 1, 1) := by kernel_rfl
/-- the slice '.slice A l.length c' is the call's own (its block from base on), and reads as l -/
def Own (w : World) (base : Nat) (A : Option Addr) (c : Nat) (l : List UInt8) : Prop :=
  w.ownsRow base 5 1 (.slice A l.length c) l.length (l.map bv)
/-- its block -/
def blkOf (A : Option Addr) : Option Nat := A.map (·.block)
theorem own_blk (A : Option Addr) (n c : Nat) : (Value.slice A n c).ownBlock = blkOf A := by cases A <;> rfl
section
variable {w w' : World} {base : Nat} {A : Option Addr} {c : Nat} {l : List UInt8}
theorem Own.nil (w : World) (base : Nat) : Own w base none 0 [] := World.ownsRow_nil w base _ _
theorem Own.form (h : Own w base A c l) : (A = none ∧ l = []) ∨ ∃ g, A = some ⟨g, 0, none⟩ ∧ base ≤ g ∧ g < w.heap.size ∧ l.length ≤ c := by
  rcases h.2 with ⟨hv, h0⟩ | ⟨g, cap, cur, hv, hb, hg, hc, _⟩
  · injection hv with hA _ _
    exact .inl ⟨hA, List.eq_nil_of_length_eq_zero h0⟩
  · injection hv with hA _ hcc
    refine .inr ⟨g, hA, hb, ?_, by omega⟩
    rcases Nat.lt_or_ge g w.heap.size with hlt | hge
    · exact hlt
    · rw [Array.getElem?_eq_none hge] at hg; cases hg
theorem Own.cap (h : Own w base A c l) : l.length ≤ c := by
  rcases h.form with ⟨_, h⟩ | ⟨_, _, _, _, h⟩
  · rw [h]; simp
  · exact h
theorem Own.rd (h : Own w base A c l) : Rd w A l := fun hn => by
  obtain ⟨g, cap, hv, hb, hlt⟩ := World.ownsRow.form h hn
  injection hv with hA _ _
  subst hA
  refine ⟨_, rfl, hlt, rfl, fun j x hx => ?_⟩
  exact World.ownsRow.cells h (g := g) rfl j (bv x) (by rw [List.getElem?_map, hx]; rfl)
theorem Own.lt (h : Own w base A c l) : ∀ k, blkOf A = some k → base ≤ k ∧ k < w.heap.size := by
  have := World.ownsRow.lt h
  rw [own_blk] at this
  exact this
theorem Own.kept {row : Option Nat} (h : Own w base A c l) (hg : w.grownBy w' row) (hne : blkOf A = none ∨ blkOf A ≠ row) : Own w' base A c l :=
  World.ownsRow.kept h hg (by rw [own_blk]; exact hne)
theorem Own.below (h : Own w base A c l) (hb : Below w.heap.size w w') : Own w' base A c l :=
  h.kept (only_of_below hb none) (by cases blkOf A <;> simp)
theorem Own.only {g : Nat} (h : Own w base A c l) (hb : w.grownBy w' (some g)) (hne : blkOf A ≠ some g) : Own w' base A c l := h.kept hb (.inr hne)
theorem Own.alloc (h : Own w base A c l) (o : Obj) : Own (w.alloc o) base A c l := World.ownsRow.alloc h o
theorem Own.drew (h : Own w base A c l) : Own w.drew base A c l := h
theorem Own.drewN (h : Own w base A c l) (n : Nat) : Own (w.drewN n) base A c l := h
theorem Own.less {base' : Nat} (h : Own w base A c l) (hb : base' ≤ base) : Own w base' A c l := by
  refine ⟨h.1, ?_⟩
  rcases h.2 with hn | ⟨g, cap, cur, hv, hbb, r⟩
  · exact .inl hn
  · exact .inr ⟨g, cap, cur, hv, by omega, r⟩
theorem Own.far (h : Own w base A c l) {p : Addr} (hne : blkOf A ≠ some p.block) (u : Value) : Own (w.setCell p u) base A c l :=
  h.kept (row := some p.block) ⟨rfl, rfl, rfl, by simp [World.setCell], fun k _ hn => Below.heap_setCell w p u k (by rintro rfl; exact hn rfl)⟩ (.inr hne)
/-- an array of bytes that the call made, whole, as a slice -/
theorem Own.of_blk {g : Nat} (h : Blk w g 5 (cs l)) (hb : base ≤ g) (hm : l.length ≤ maxLen) : Own w base (some ⟨g, 0, none⟩) l.length l := by
  refine ⟨by simp, .inr ⟨g, l.length, cs l, rfl, hb, h, Nat.le_refl _, hm, by rw [cs_size]; omega, by
    have : (cs l).toList = l.map bv := by simp [cs]
    rw [this]; exact List.take_of_length_le (by simp)⟩⟩
end
/-- a row whose first cells are the list's, with more behind them -/
theorem own_block {w : World} {base : Nat} {g n c : Nat} {l : List UInt8} (h : Own w base (some ⟨g, 0, none⟩) c l) (_hn : n = l.length) :
    ∃ cur : Array Value, w.heap[g]? = some (.cells cur 5 (0, 0)) ∧ cur.size = c ∧ cur.toList.take l.length = l.map bv ∧ l.length ≤ c := by
  rcases h.2 with ⟨hv, _⟩ | ⟨g', cap, cur, hv, _, hg, hc, _, hs, ht⟩
  · cases hv
  · injection hv with hA _ hcc
    injection hA with hA
    injection hA with hA
    subst hA hcc
    exact ⟨cur, hg, by omega, by simpa using ht, hc⟩
theorem run_append_nil (w : World) (ty base : Nat) (A : Option Addr) (c : Nat) (l : List UInt8) (hown : Own w base A c l) (c' : Nat) :
    (Builtin.append_ #[22, 22] ty #[.slice A l.length c, .slice none 0 c']).run Tryd.prog w = .ok (.slice A l.length c) w := by
  obtain ⟨i, hi, hz, hs, hb⟩ := info_parts byteinfo
  rcases hown.2 with ⟨hv, h0⟩ | ⟨g, cap, cur, hv, _, _, hnc, _⟩
  · rw [hv]; simp [Builtin.append_, run_underlying Tryd.underlying22, sizeOf, typeInfo, hi, Builtin.lenOf, Builtin.firstCells]
  · rw [hv]; simp [Builtin.append_, run_underlying Tryd.underlying22, sizeOf, typeInfo, hi, Builtin.lenOf, Builtin.firstCells, hnc, storeCells]
set_option maxRecDepth 100000 in
/-- THE LAW: append onto a slice of one's own, the source nil, empty or not -/
theorem run_app (w : World) (ty base : Nat) (A : Option Addr) (c : Nat) (l : List UInt8) (hown : Own w base A c l) (X : Option Addr) (m : List UInt8) (cx : Nat) (hr : Rd w X m) (hX : m = [] → X = none ∨ ∃ ad, X = some ad)
    (hlen : l.length + m.length ≤ 140737488355328) (hbase : base ≤ w.heap.size) :
    ∃ A' c' w', (Builtin.append_ #[22, 22] ty #[.slice A l.length c, .slice X m.length cx]).run Tryd.prog w = .ok (.slice A' (l ++ m).length c') w' ∧
      Own w' base A' c' (l ++ m) ∧ w.grownBy w' (blkOf A) ∧ (blkOf A' = blkOf A ∨ blkOf A' = some w.heap.size) := by
  obtain ⟨i, hi, hz, hs, hb⟩ := info_parts byteinfo
  have hmax : l.length + m.length ≤ maxLen := by simp only [maxLen]; omega
  have key : ∀ ad, X = some ad → (∀ j u, (m.map bv)[j]? = some u → w.cell? (ad.add j) = some u) → _ := fun ad e hc =>
    run_append_own_at (P := Tryd.prog) w base 22 ty 5 i (.int .u8 0) 1 1 Tryd.underlying22 hi hz hs hb rfl (by decide) _ _ _ hown ad m.length cx (m.map bv) (by simp) hc
      (by intro u hu; simp only [List.mem_map] at hu; obtain ⟨x, _, rfl⟩ := hu; rfl) hmax (by rw [Nat.mul_one]; exact hlen) hbase
  have shape : ∀ v' (w' : World), w'.ownsRow base 5 1 v' (l.length + m.length) (l.map bv ++ m.map bv) → ∃ A' c', v' = .slice A' (l ++ m).length c' ∧ Own w' base A' c' (l ++ m) := by
    intro v' w' h
    have hll : (l ++ m).length = l.length + m.length := by simp
    rcases h.2 with ⟨rfl, h0⟩ | ⟨g, cap, cur, rfl, h2⟩
    · have : (l ++ m).length = 0 := by omega
      exact ⟨none, 0, by rw [this], by unfold Own; rw [hll, List.map_append, h0]; rw [h0] at h; exact h⟩
    · exact ⟨some ⟨g, 0, none⟩, cap, by rw [hll], by unfold Own; rw [hll, List.map_append]; exact h⟩
  rcases X with _ | ad
  · have hm : m = [] := by
      rcases Nat.eq_zero_or_pos m.length with h0 | h0
      · exact List.eq_nil_of_length_eq_zero h0
      · obtain ⟨ad, h, _⟩ := hr h0; cases h
    subst hm
    exact ⟨A, c, w, by simpa using run_append_nil w ty base A c l hown cx, by simpa using hown, World.grownBy.refl w _, .inl rfl⟩
  · have hc : ∀ j u, (m.map bv)[j]? = some u → w.cell? (ad.add j) = some u := by
      intro j u hu
      rw [List.getElem?_map] at hu
      cases hx : m[j]? with
      | none => rw [hx] at hu; cases hu
      | some x =>
        rw [hx] at hu
        have hu' : some (bv x) = some u := hu
        obtain rfl : bv x = u := Option.some.inj hu'
        have h0 : 0 < m.length := by
          have := (List.getElem?_eq_some_iff.1 hx).1; omega
        obtain ⟨ad', h, _, _, hcc⟩ := hr h0
        injection h with h
        subst h
        exact hcc j x hx
    obtain ⟨v', w', hrun, h2, h3, _, h5⟩ := key ad rfl hc
    obtain ⟨A', c', rfl, hown'⟩ := shape v' w' h2
    rw [own_blk] at h3
    rw [own_blk, own_blk] at h5
    exact ⟨A', c', w', hrun, hown', h3, h5⟩
theorem wp_app {o : Oper} {a : Act} {w : World} {K : Act → World → Prop} {Q : Exit → Act → World → Prop} (s x : Operand)
    (ho : o.op = .call { callee := .builtin .append, args := #[s, x], argTypes := #[22, 22] })
    (base : Nat) (A : Option Addr) (n c : Nat) (l : List UInt8) (hn : n = l.length) (hs : a.eval s = .slice A n c) (hown : Own w base A c l)
    (X : Option Addr) (k cx : Nat) (m : List UInt8) (hk : k = m.length) (hx : a.eval x = .slice X k cx) (hr : Rd w X m)
    (hlen : l.length + m.length ≤ 140737488355328) (hbase : base ≤ w.heap.size)
    (h : ∀ A' c' w', Own w' base A' c' (l ++ m) → w.grownBy w' (blkOf A) → (blkOf A' = blkOf A ∨ blkOf A' = some w.heap.size) → K (a.put o.dst (.slice A' (l ++ m).length c')) w') : o.wp Tryd.prog a w K Q := by
  subst hn hk
  obtain ⟨A', c', w', hr, h2, h3, h4⟩ := run_app w o.type base A c l hown X m cx hr (fun _ => by cases X <;> simp) hlen hbase
  unfold Oper.wp execOp
  simp only [ho, resolve, invoke, builtin, Sem.run_bind, Sem.run_pure, Result.andThen_ok, List.map_toArray, List.map_cons, List.map_nil, hs, hx, hr]
  exact h A' c' w' h2 h3 h4
/-- in a plain region -/
theorem wpList_app {ops : Array Oper} {rest : List Oper} {o : Oper} {a : Act} {w : World} {Q : Exit → Act → World → Prop} (hgd : o.guard = none) (s x : Operand)
    (ho : o.op = .call { callee := .builtin .append, args := #[s, x], argTypes := #[22, 22] })
    (base : Nat) (A : Option Addr) (n c : Nat) (l : List UInt8) (hn : n = l.length) (hs : a.eval s = .slice A n c) (hown : Own w base A c l)
    (X : Option Addr) (k cx : Nat) (m : List UInt8) (hk : k = m.length) (hx : a.eval x = .slice X k cx) (hr : Rd w X m)
    (hlen : l.length + m.length ≤ 140737488355328) (hbase : base ≤ w.heap.size)
    (h : ∀ A' c' w', Own w' base A' c' (l ++ m) → w.grownBy w' (blkOf A) → (blkOf A' = blkOf A ∨ blkOf A' = some w.heap.size) → wpList Tryd.prog ops Q rest (a.put o.dst (.slice A' (l ++ m).length c')) w') :
    wpList Tryd.prog ops Q (o :: rest) a w :=
  wpList_plain hgd fun _ hK => wp_app s x ho base A n c l hn hs hown X k cx m hk hx hr hlen hbase fun A' c' w' h2 h3 h4 => hK _ _ (h A' c' w' h2 h3 h4)
/-- in a region that draws -/
theorem step_app {ops : Array Oper} {o : Oper} {a : Act} {w : World} {K : Act → World → Prop} {Q : Exit → Act → World → Prop} {E : Prop} (hgd : o.guard = none) (s x : Operand)
    (ho : o.op = .call { callee := .builtin .append, args := #[s, x], argTypes := #[22, 22] })
    (base : Nat) (A : Option Addr) (n c : Nat) (l : List UInt8) (hn : n = l.length) (hs : a.eval s = .slice A n c) (hown : Own w base A c l)
    (X : Option Addr) (k cx : Nat) (m : List UInt8) (hk : k = m.length) (hx : a.eval x = .slice X k cx) (hr : Rd w X m)
    (hlen : l.length + m.length ≤ 140737488355328) (hbase : base ≤ w.heap.size)
    (h : ∀ A' c' w', Own w' base A' c' (l ++ m) → w.grownBy w' (blkOf A) → (blkOf A' = blkOf A ∨ blkOf A' = some w.heap.size) → K (a.put o.dst (.slice A' (l ++ m).length c')) w') :
    if Region.wanted o (yielded ops a.tmps) = true then Oper.wp Tryd.prog o a w K Q else E := by
  have hw : Region.wanted o (yielded ops a.tmps) = true := by simp [Region.wanted, hgd]
  rw [if_pos hw]
  exact wp_app s x ho base A n c l hn hs hown X k cx m hk hx hr hlen hbase h
/-- cells that lie in a block of the call's own, as a source -/
theorem Rd.of_blk {w : World} {g : Nat} {t : TypeId} {l : List UInt8} (h : Blk w g t (cs l)) : Rd w (some ⟨g, 0, none⟩) l := fun _ =>
  ⟨_, rfl, h.lt, rfl, fun j x hx => by rw [add_mk, h.cell, cs_get, Nat.zero_add, hx]; rfl⟩
end Go.Proofs.YtbmhmohpnhckgaaDoor
