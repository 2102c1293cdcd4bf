/- what the cards of layer 5 share: the listed variable, arguments opened -/
import Derived.Test.YtbmhmohpnhckgaaDoorRows
import Derived.Test.YtbmhmohpnhckgaaDoorCards
import Derived.Test.YtbmhmohpnhckgaaDoorTie
import Derived.Test.YtbmhmohpnhckgaaDoorErr
import Derived.Test.YtbmhmohpnhckgaaDoorMem
import Derived.ProofKit
import Derived.OpenShut
import Derived.ChangeOld
import Derived.Below
import Derived.Carry
import Derived.SizedLaws
import Derived.ChangeSame
import Derived.ChangeVars
import Derived.ChangeSlices
import Derived.JoinedOf
import Derived.LaidLaws
import Derived.LaidHandle
import Derived.Stop.Joined
import Derived.SevenTiedAt
namespace Go.Proofs.YtbmhmohpnhckgaaDoor
open Go.ChangeShapes Go.WideShapes Go.ChangeAt Go.RowKit
theorem et_own : ownKnob Tryd.prog.godebug = none := by kernel_rfl
theorem et_global : Tryd.prog.globalNamed "errors.errorType" = some 0 := by kernel_rfl
theorem et_rtype : (Tryd.prog.cutTypes.find? (·.1 == "internal/reflectlite.rtype")).map (·.2) = some 103 := by kernel_rfl
theorem et_size : Tryd.prog.types.size = 191 := by kernel_rfl
theorem et_row : ((List.range 191).filter fun t => Tryd.prog.rowNamed t [101, 114, 114, 111, 114]) = [29] := by kernel_rfl
/-- what the listed variable gives a walk -/
theorem errVar_of_laid {W : World} (h : laidMetH Tryd.prog Rows.blockBackRow.laid W) : ErrVar W := by
  have h' : laidMet Tryd.prog [] W ∧ handlesMet Tryd.prog Rows.blockBackRow.laid W := h
  obtain ⟨name, u, ty, e1, e2, e3, e4, e5⟩ := h'.2 _ (List.mem_singleton.2 rfl)
  have en : name = [101, 114, 114, 111, 114] := (Option.some.inj e1).symm
  subst en
  obtain rfl := Option.some.inj (et_rtype.symm.trans e2)
  have hm : ty ∈ (List.range 191).filter fun t => Tryd.prog.rowNamed t [101, 114, 114, 111, 114] := List.mem_filter.2 ⟨List.mem_range.2 (by rw [← et_size]; exact e3), e4⟩
  rw [et_row] at hm
  obtain rfl := List.mem_singleton.1 hm
  have hh : typeHandle Tryd.prog 29 = .pointer (some ⟨1, 29, none⟩) := by kernel_rfl
  rw [hh] at e5
  have h9 := World.var?_cell et_global e5 0
  show W.cell? ⟨0, 0, none⟩ = _
  simpa using h9
theorem rd_of_cells {W : World} {a : Addr} {k : Nat} {zs : List Int} {l : List UInt8} (hl : l.length = k) (hz : zs.take k = l.map fun x : UInt8 => (x.toNat : Int)) (hk : k ≤ zs.length) (hc : ∀ i, i < zs.length → W.cell? (a.add i) = some (.int .u8 (zs.getD i 0))) : Rd W (some a) l := fun hp => by
  have h0 := hc 0 (by omega)
  have ha : a.add 0 = a := by simp [Addr.add]
  rw [ha] at h0
  have hs : a.spot = none ∧ a.block < W.heap.size := by
    refine ⟨?_, ?_⟩
    · unfold World.cell? at h0
      split at h0
      · cases hsp : a.spot with
        | none => rfl
        | some _ => rw [hsp] at h0; simp at h0
      · cases h0
    · rcases Nat.lt_or_ge a.block W.heap.size with hlt | hge
      · exact hlt
      · unfold World.cell? at h0
        rw [Array.getElem?_eq_none hge] at h0
        cases h0
  refine ⟨a, rfl, hs.2, hs.1, fun j x hx => ?_⟩
  have hj : j < l.length := (List.getElem?_eq_some_iff.1 hx).1
  rw [hc j (by omega)]
  have h1 : (zs.take k)[j]? = some (x.toNat : Int) := by rw [hz, List.getElem?_map, hx]; rfl
  rw [List.getElem?_take_of_lt (by omega)] at h1
  rw [List.getD_eq_getElem?_getD, h1]
  rfl
theorem laidOut_ : laidOutB Tryd.prog = true := by kernel_rfl
theorem u8s_of : ∀ (zs : List Int), (∀ n ∈ zs, (Lit.int .u8 n).wf = true) → ∃ l : List UInt8, l.length = zs.length ∧ zs = l.map fun x : UInt8 => (x.toNat : Int)
  | [], _ => ⟨[], rfl, rfl⟩
  | z :: zs, h => by
    obtain ⟨l, h1, h2⟩ := u8s_of zs (fun n hn => h n (by simp [hn]))
    have hw := h z (by simp)
    have hmin : IntKind.u8.min = 0 := rfl
    have hmax : IntKind.u8.max = 255 := rfl
    simp only [Lit.wf, Bool.and_eq_true, decide_eq_true_eq] at hw
    refine ⟨UInt8.ofNat z.toNat :: l, by simp [h1], ?_⟩
    have e : ((UInt8.ofNat z.toNat).toNat : Int) = z := by
      rw [UInt8.toNat_ofNat']
      omega
    rw [List.map_cons, e, ← h2]
/-- a slice of bytes that came in reads as a list -/
theorem bytes_of {H : Type} {enc : TypeId × Value → H} {W : World} {A : Option Addr} {len cap : Nat} {d : DataW H} {ps : List MemPlace} (h : DataW.Trod enc Tryd.prog W 0 (fun _ => true) true 22 (.slice A len cap) d ps) : ∃ key : List UInt8, len = key.length ∧ Rd W A key := by
  obtain ⟨fuel, hf⟩ := h
  rcases open_ints Tryd.underlying22 Tryd.underlying5 (by kernel_rfl) hf with ⟨hcs, _⟩ | ⟨a, len', cap', zs, hcs, _, hl, _, hz, _, hcell, hwz⟩
  · have hcs' : Value.slice A len cap = .slice none 0 0 := (List.cons.inj (show [Value.slice A len cap] = [.slice none 0 0] from hcs)).1
    injection hcs' with e1 e2 e3
    subst e1 e2
    exact ⟨[], rfl, Rd.nil _ _⟩
  · have hcs' : Value.slice A len cap = .slice (some a) len' cap' := (List.cons.inj (show [Value.slice A len cap] = [.slice (some a) len' cap'] from hcs)).1
    injection hcs' with e1 e2 e3
    subst e1 e2 e3
    simp only [if_true] at hz
    obtain ⟨l, h1, h2⟩ := u8s_of (zs.take len) (fun n hn => hwz n (List.mem_of_mem_take hn))
    have hll : l.length = len := by rw [h1, List.length_take]; omega
    exact ⟨l, hll.symm, rd_of_cells hll h2 (by omega) hcell⟩
/-- a world that meets the condition -/
noncomputable def laidWorld (os : Os) : World :=
  let w0 := World.holding Tryd.prog os ⟨#[], #[], []⟩
  { w0 with heap := w0.heap.modify 0 fun
      | .cells _ t frozen => .cells #[.iface 103 (.agg #[.pointer (some ⟨1, 29, none⟩)])] t frozen
      | o => o }
theorem u8_bounds {n : Int} (h : (Lit.int .u8 n).wf = true) : 0 ≤ n ∧ n ≤ 255 := by
  have hmin : IntKind.u8.min = 0 := rfl
  have hmax : IntKind.u8.max = 255 := rfl
  simp only [Lit.wf, Bool.and_eq_true, decide_eq_true_eq] at h
  omega
theorem vals_bytes : ∀ (c : List Value), (∀ v ∈ c, ∃ z : Int, v = .int .u8 z ∧ (Lit.int .u8 z).wf = true) → ∃ l : List UInt8, l.length = c.length ∧ c = l.map bv
  | [], _ => ⟨[], rfl, rfl⟩
  | v :: c, h => by
    obtain ⟨l, h1, h2⟩ := vals_bytes c (fun n hn => h n (by simp [hn]))
    obtain ⟨z, rfl, hw⟩ := h v (by simp)
    obtain ⟨lo, hi⟩ := u8_bounds hw
    refine ⟨UInt8.ofNat z.toNat :: l, by simp [h1], ?_⟩
    have e : ((UInt8.ofNat z.toNat).toNat : Int) = z := by
      rw [UInt8.toNat_ofNat']
      omega
    rw [List.map_cons, bv_def, e, ← h2]
theorem cells16 : Tryd.prog.cellsOf 41 = 16 := by kernel_rfl
theorem cells1 : Tryd.prog.cellsOf 5 = 1 := by kernel_rfl
set_option maxRecDepth 100000 in
/-- sixteen cells that read as an array of bytes -/
theorem arr16_cells {H : Type} {enc : TypeId × Value → H} {W : World} {base : Nat} {sp : Nat → Bool} {held : Bool} {fuel : Nat} {c : List Value} {x : DataW H × List MemPlace} (h : DataW.trod enc Tryd.prog W base sp held fuel 41 c = some x) : ∃ l : List UInt8, l.length = 16 ∧ c = l.map bv := by
  obtain ⟨xs, m, _, _, hl, hxl, hi⟩ := DataW.trod_array Tryd.underlying41 h
  rw [cells16] at hl
  obtain ⟨l, h1, h2⟩ := vals_bytes c (fun v hv => by
    obtain ⟨i, hlt, rfl⟩ := List.mem_iff_getElem.1 hv
    have h3 := hi i (by omega)
    rw [cells1, Nat.mul_one, List.getElem?_eq_getElem (by omega)] at h3
    obtain ⟨z, hc, _, hw⟩ := DataW.trod_int Tryd.underlying5 h3
    refine ⟨z, ?_, hw⟩
    have := congrArg (·[0]?) hc
    simpa [List.getElem?_take, List.getElem?_drop, hlt] using this)
  exact ⟨l, by omega, h2⟩
set_option maxRecDepth 100000 in
/-- an array of sixteen bytes that came in -/
theorem arr16_of {H : Type} {enc : TypeId × Value → H} {W : World} {base b0 : Nat} {sp : Nat → Bool} {held : Bool} {v : Value} {d : DataW H} {ps : List MemPlace} (h : DataW.Trod enc Tryd.prog W b0 sp held 41 v d ps) (hv : Value.okWide Tryd.prog W .any base 41 v) : ∃ l : List UInt8, v = .agg (cs l) ∧ l.length = 16 := by
  simp only [Value.okWide, Tryd.underlying41] at hv
  obtain ⟨c, rfl, _, _⟩ := hv
  obtain ⟨fuel, hf⟩ := h
  obtain ⟨l, h1, h2⟩ := arr16_cells hf
  refine ⟨l, ?_, h1⟩
  have h3 : c.toList = l.map bv := h2
  have : c = cs l := by rw [← Array.toArray_toList (xs := c), h3]; rfl
  rw [this]
end Go.Proofs.YtbmhmohpnhckgaaDoor
