/- a slice of arrays that came in -/
import Derived.Test.YtbmhmohpnhckgaaDoorCardKit
import Derived.Test.YtbmhmohpnhckgaaDoorRows05
import Derived.Deep.Slices
namespace Go.Proofs.YtbmhmohpnhckgaaDoor
open Go.ChangeShapes Go.WideShapes Go.ChangeAt Go.RowKit
theorem cells_at {w : World} {base : Nat} {a : Addr} {n : Nat} {c : List Value} (h : w.cells? base a n = some c) (j : Nat) (hj : j < n) : ∃ v, c[j]? = some v ∧ w.cell? (a.add j) = some v := by
  unfold World.cells? at h
  split at h
  · have h1 := mapM_some_get h j j (by simp [hj])
    have h2 := mapM_some_length h
    have h3 : j < c.length := by rw [h2]; simpa using hj
    exact ⟨c[j], List.getElem?_eq_getElem h3, by rw [h1, List.getElem?_eq_getElem h3]⟩
  · cases h
theorem addr_of {w : World} {a : Addr} {v : Value} (h : w.cell? a = some v) : a.spot = none ∧ a.block < w.heap.size := by
  refine ⟨?_, ?_⟩
  · unfold World.cell? at h
    split at h
    · cases hsp : a.spot with
      | none => rfl
      | some _ => rw [hsp] at h; simp at h
    · cases h
  · rcases Nat.lt_or_ge a.block w.heap.size with hlt | hge
    · exact hlt
    · unfold World.cell? at h
      rw [Array.getElem?_eq_none hge] at h
      cases h
/-- a slice of arrays of sixteen bytes reads as a list of lists -/
theorem arrs_of {H : Type} {enc : TypeId × Value → H} {W : World} {A : Option Addr} {len cap : Nat} {d : DataW H} {ps : List MemPlace} (h : DataW.Trod enc Tryd.prog W 0 (fun _ => true) true 53 (.slice A len cap) d ps) : ∃ ls : List (List UInt8), len = ls.length ∧ RdL W.heap.size W A ls := by
  obtain ⟨fuel, hf⟩ := h
  rcases Go.Deep.open_slice Tryd.underlying53 hf with ⟨hcs, _⟩ | ⟨a, len', cap', m, n, D, Pl, hcs, _, hl, _, hm, _, hel⟩
  · have hcs' : Value.slice A len cap = .slice none 0 0 := (List.cons.inj (show [Value.slice A len cap] = [.slice none 0 0] from hcs)).1
    injection hcs' with e1 e2 e3
    subst e1 e2
    exact ⟨[], rfl, fun x hx => (by cases hx), fun h => absurd h (by decide)⟩
  · have hcs' : Value.slice A len cap = .slice (some a) len' cap' := (List.cons.inj (show [Value.slice A len cap] = [.slice (some a) len' cap'] from hcs)).1
    injection hcs' with e1 e2 e3
    subst e1 e2 e3
    simp only [if_true] at hm
    have each : ∀ i, i < len → ∃ l : List UInt8, l.length = 16 ∧ ∀ j x, l[j]? = some x → W.cell? ((a.add (i * 16)).add j) = some (bv x) := by
      intro i hi
      obtain ⟨c, h1, h2⟩ := hel i (by omega)
      rw [cells16] at h1
      obtain ⟨l, hl16, rfl⟩ := arr16_cells h2
      refine ⟨l, hl16, fun j x hx => ?_⟩
      have hj : j < l.length := (List.getElem?_eq_some_iff.1 hx).1
      obtain ⟨v, hv, hcell⟩ := cells_at h1 j (by omega)
      rw [List.getElem?_map, hx] at hv
      have hv' : some (bv x) = some v := hv
      rw [hcell, ← hv']
    rcases Nat.eq_zero_or_pos len with h0 | h0
    · subst h0
      exact ⟨[], rfl, fun x hx => (by cases hx), fun h => absurd h (by decide)⟩
    · obtain ⟨l0, hl0, hc0⟩ := each 0 h0
      have hx0 : l0[0]? = some l0[0] := List.getElem?_eq_getElem (by omega)
      have h00 := addr_of (hc0 0 _ hx0)
      have ha : (a.add (0 * 16)).add 0 = a := by simp [Addr.add]
      rw [ha] at h00
      obtain ⟨b, o, sp⟩ := a
      obtain ⟨hs, hb⟩ := h00
      simp only at hs hb
      subst hs
      obtain ⟨f, hf2⟩ := Go.Deep.choose_lt each
      refine ⟨(List.range len).map f, by simp, fun x hx => ?_, fun _ => ⟨b, o, rfl, hb, fun i x hx => ?_⟩⟩
      · obtain ⟨i, hi, rfl⟩ := List.mem_map.1 hx
        exact (hf2 i (List.mem_range.1 hi)).1
      · have hi : i < len := by
          have := (List.getElem?_eq_some_iff.1 hx).1
          simpa using this
        rw [List.getElem?_map, List.getElem?_range hi] at hx
        have hx' : some (f i) = some x := hx
        obtain rfl := Option.some.inj hx'
        refine fun _ => ⟨_, rfl, hb, rfl, fun j y hy => ?_⟩
        have := (hf2 i hi).2 j y hy
        rwa [add_mk] at this
end Go.Proofs.YtbmhmohpnhckgaaDoor
