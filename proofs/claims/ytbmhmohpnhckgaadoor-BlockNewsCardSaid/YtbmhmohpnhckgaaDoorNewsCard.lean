/- BlockNews: the row and its card -/
import Derived.Test.YtbmhmohpnhckgaaDoorRows
import Derived.Test.YtbmhmohpnhckgaaDoorCards
import Derived.Test.YtbmhmohpnhckgaaDoorTie
import Derived.Test.YtbmhmohpnhckgaaDoorNews2
import Derived.ProofKit
import Derived.OpenShut
import Derived.ChangeOld
import Derived.Below
import Derived.Carry
import Derived.SizedLaws
import Derived.ChangeSame
import Derived.ChangeVars
import Derived.ChangeSlices
import Derived.JoinedOf
import Derived.LaidLaws
import Derived.LaidHandle
import Derived.Stop.Joined
import Derived.SevenTiedAt
namespace Go.Proofs.YtbmhmohpnhckgaaDoor
open Go.ChangeShapes Go.WideShapes Go.ChangeAt Go.RowKit
theorem et_own : ownKnob Tryd.prog.godebug = none := by kernel_rfl
theorem et_global : Tryd.prog.globalNamed "errors.errorType" = some 0 := by kernel_rfl
theorem et_rtype : (Tryd.prog.cutTypes.find? (·.1 == "internal/reflectlite.rtype")).map (·.2) = some 103 := by kernel_rfl
theorem et_size : Tryd.prog.types.size = 191 := by kernel_rfl
theorem et_row : ((List.range 191).filter fun t => Tryd.prog.rowNamed t [101, 114, 114, 111, 114]) = [29] := by kernel_rfl
/-- what the listed variable gives a walk -/
theorem errVar_of_laid {W : World} (h : laidMetH Tryd.prog Rows.blockNewsRow.laid W) : ErrVar W := by
  have h' : laidMet Tryd.prog [] W ∧ handlesMet Tryd.prog Rows.blockNewsRow.laid W := h
  obtain ⟨name, u, ty, e1, e2, e3, e4, e5⟩ := h'.2 _ (List.mem_singleton.2 rfl)
  have en : name = [101, 114, 114, 111, 114] := (Option.some.inj e1).symm
  subst en
  obtain rfl := Option.some.inj (et_rtype.symm.trans e2)
  have hm : ty ∈ (List.range 191).filter fun t => Tryd.prog.rowNamed t [101, 114, 114, 111, 114] := List.mem_filter.2 ⟨List.mem_range.2 (by rw [← et_size]; exact e3), e4⟩
  rw [et_row] at hm
  obtain rfl := List.mem_singleton.1 hm
  have hh : typeHandle Tryd.prog 29 = .pointer (some ⟨1, 29, none⟩) := by kernel_rfl
  rw [hh] at e5
  have h9 := World.var?_cell et_global e5 0
  show W.cell? ⟨0, 0, none⟩ = _
  simpa using h9
theorem rd_of_cells {W : World} {a : Addr} {k : Nat} {zs : List Int} {l : List UInt8} (hl : l.length = k) (hz : zs.take k = l.map fun x : UInt8 => (x.toNat : Int)) (hk : k ≤ zs.length) (hc : ∀ i, i < zs.length → W.cell? (a.add i) = some (.int .u8 (zs.getD i 0))) : Rd W (some a) l := fun hp => by
  have h0 := hc 0 (by omega)
  have ha : a.add 0 = a := by simp [Addr.add]
  rw [ha] at h0
  have hs : a.spot = none ∧ a.block < W.heap.size := by
    refine ⟨?_, ?_⟩
    · unfold World.cell? at h0
      split at h0
      · cases hsp : a.spot with
        | none => rfl
        | some _ => rw [hsp] at h0; simp at h0
      · cases h0
    · rcases Nat.lt_or_ge a.block W.heap.size with hlt | hge
      · exact hlt
      · unfold World.cell? at h0
        rw [Array.getElem?_eq_none hge] at h0
        cases h0
  refine ⟨a, rfl, hs.2, hs.1, fun j x hx => ?_⟩
  have hj : j < l.length := (List.getElem?_eq_some_iff.1 hx).1
  rw [hc j (by omega)]
  have h1 : (zs.take k)[j]? = some (x.toNat : Int) := by rw [hz, List.getElem?_map, hx]; rfl
  rw [List.getElem?_take_of_lt (by omega)] at h1
  rw [List.getD_eq_getElem?_getD, h1]
  rfl
theorem laidOut_ : laidOutB Tryd.prog = true := by kernel_rfl
theorem u8s_of : ∀ (zs : List Int), (∀ n ∈ zs, (Lit.int .u8 n).wf = true) → ∃ l : List UInt8, l.length = zs.length ∧ zs = l.map fun x : UInt8 => (x.toNat : Int)
  | [], _ => ⟨[], rfl, rfl⟩
  | z :: zs, h => by
    obtain ⟨l, h1, h2⟩ := u8s_of zs (fun n hn => h n (by simp [hn]))
    have hw := h z (by simp)
    have hmin : IntKind.u8.min = 0 := rfl
    have hmax : IntKind.u8.max = 255 := rfl
    simp only [Lit.wf, Bool.and_eq_true, decide_eq_true_eq] at hw
    refine ⟨UInt8.ofNat z.toNat :: l, by simp [h1], ?_⟩
    have e : ((UInt8.ofNat z.toNat).toNat : Int) = z := by
      rw [UInt8.toNat_ofNat']
      omega
    rw [List.map_cons, e, ← h2]
/-- a slice of bytes that came in reads as a list -/
theorem bytes_of {H : Type} {enc : TypeId × Value → H} {W : World} {A : Option Addr} {len cap : Nat} {d : DataW H} {ps : List MemPlace} (h : DataW.Trod enc Tryd.prog W 0 (fun _ => true) true 22 (.slice A len cap) d ps) : ∃ key : List UInt8, len = key.length ∧ Rd W A key := by
  obtain ⟨fuel, hf⟩ := h
  rcases open_ints Tryd.underlying22 Tryd.underlying5 (by kernel_rfl) hf with ⟨hcs, _⟩ | ⟨a, len', cap', zs, hcs, _, hl, _, hz, _, hcell, hwz⟩
  · have hcs' : Value.slice A len cap = .slice none 0 0 := (List.cons.inj (show [Value.slice A len cap] = [.slice none 0 0] from hcs)).1
    injection hcs' with e1 e2 e3
    subst e1 e2
    exact ⟨[], rfl, Rd.nil _ _⟩
  · have hcs' : Value.slice A len cap = .slice (some a) len' cap' := (List.cons.inj (show [Value.slice A len cap] = [.slice (some a) len' cap'] from hcs)).1
    injection hcs' with e1 e2 e3
    subst e1 e2 e3
    simp only [if_true] at hz
    obtain ⟨l, h1, h2⟩ := u8s_of (zs.take len) (fun n hn => hwz n (List.mem_of_mem_take hn))
    have hll : l.length = len := by rw [h1, List.length_take]; omega
    exact ⟨l, hll.symm, rd_of_cells hll h2 (by omega) hcell⟩
/-- a world that meets the condition -/
noncomputable def laidWorld (os : Os) : World :=
  let w0 := World.holding Tryd.prog os ⟨#[], #[], []⟩
  { w0 with heap := w0.heap.modify 0 fun
      | .cells _ t frozen => .cells #[.iface 103 (.agg #[.pointer (some ⟨1, 29, none⟩)])] t frozen
      | o => o }
theorem laidWorld_met (os : Os) (args : Array Value) : laidMetH Tryd.prog Rows.blockNewsRow.laid ((laidWorld os).forCall (fun _ _ => 0) ⟨#[], args, []⟩).memory :=
  laidMetH_of_parts (laidMet_nil _ _) (by kernel_rfl)
set_option maxRecDepth 100000 in
theorem news_lifted (os : Os) (started : os.Started) (H : Type) (enc : TypeId × Value → H) :
    ReturnsInHanded {} Tryd.checked os 3 .any (fun w args => (Rows.blockNewsSpec.pre enc Tryd.prog Tryd.f3 [] false w args ∧ laidMetH Tryd.prog Rows.blockNewsRow.laid w) ∧ sizedMet enc Tryd.prog Tryd.f3 (OpenSpec.ofChange Rows.blockNewsSpec) false w args)
      (Rows.blockNewsSpec.post enc Tryd.prog Tryd.f3 false true false false) := by
  refine returnsInHanded_of_change_and (C := Tryd.checked) (X := fun w _ => laidMetH Tryd.prog Rows.blockNewsRow.laid w) (fun _ _ _ hh h => h.of_heap hh) et_own started (by kernel_rfl) Tryd.func3
    (ChangeSpec.witness_at (enc := enc) (C := Tryd.checked) (os := os) (X := fun w _ => laidMetH Tryd.prog Rows.blockNewsRow.laid w) false (laidWorld os) #[.int .i64 0, .slice none 0 0, .bool false] 8 rfl (by kernel_rfl) (by kernel_rfl) (by kernel_rfl) (by kernel_rfl) (by kernel_rfl) (laidWorld_met os _)) ?_
  intro W base args ds gs before hval0 hW _ _ hL _
  have hval : ∀ (j : Nat) t v, Tryd.f3.params[j]? = some t → args[j]? = some v → Value.okWide Tryd.prog W .any base t v := hval0
  have hW' := hW
  obtain ⟨p, q, hA0, hV, rfl, hfz, hnd⟩ := hW
  have hA : DataW.TrodAll enc Tryd.prog W 0 (fun _ => true) true Tryd.f3.params.toList args.toList ds p := hA0
  rw [Tryd.params3] at hA hval
  obtain ⟨v0, vs0, d0, ds0, p0, q0, hargs, rfl, rfl, h0, r0⟩ := trodAll_cons hA
  obtain ⟨v1, vs1, d1, ds1, p1, q1, rfl, rfl, rfl, h1, r1⟩ := trodAll_cons r0
  obtain ⟨v2, vs2, d2, ds2, p2, q2, rfl, rfl, rfl, h2, r2⟩ := trodAll_cons r1
  obtain ⟨rfl, rfl, rfl⟩ := trodAll_nil r2
  obtain rfl : args = #[v0, v1, v2] := by cases args; simp_all
  obtain ⟨rfl, rfl⟩ := trodVars_none hV
  obtain ⟨a0, rfl, rfl, rfl, w0⟩ := open_int Tryd.underlying3 (hval 0 3 v0 rfl rfl) h0
  obtain ⟨b2, rfl, rfl, rfl⟩ := open_bool Tryd.underlying4 (hval 2 4 v2 rfl rfl) h2
  have h1k := h1
  obtain ⟨A, len, cap, rfl⟩ := okWide_slice Tryd.underlying22 (hval 1 22 v1 rfl rfl)
  have hvar := errVar_of_laid hL
  obtain ⟨key, hkl, hkr⟩ := bytes_of h1
  refine (news_any a0 A len cap key b2 W hkl hkr hvar).mono fun e W' ⟨he, bel⟩ => ?_
  subst he
  have hlt : ∀ x ∈ p1, x.block < W.heap.size := fun x hx => hW'.lt x (by simp [hx])
  exact ⟨_, rfl, _, _, _, [], _, [], hW', trodAll_mk1 (shut_bool Tryd.underlying4 _), (trodAll_cons_mk (shut_int Tryd.underlying3 w0) (trodAll_cons_mk (Below.trod laidOut_ (by kernel_rfl) (of_decide_eq_true (by kernel_rfl)) h1k bel hlt) (trodAll_cons_mk (shut_bool Tryd.underlying4 _) trodAll_mk0))), rfl, bel.frame _, fun h => by cases h⟩
theorem news_row : Rows.BlockNewsSaid :=
  OpenClaim.holds_of_wide 3 Tryd.f3 rfl rfl rfl rfl rfl rfl rfl ⟨rfl, rfl, rfl, rfl, rfl⟩ rfl rfl rfl rfl rfl (by kernel_rfl) Tryd.func3 (by kernel_rfl)
    (of_decide_eq_true (by kernel_rfl)) (by unfold Func.isWrapper; first | (rw [if_pos (by decide +kernel)]; kernel_rfl) | (rw [if_neg (by decide +kernel)]; exact ⟨rfl, rfl⟩))
    (fun os started H enc _ => news_lifted os started H enc)
theorem blockNews_card : Rows.BlockNewsCardSaid :=
  Claim7.holds_tied_plain_at .later [] [.handle] true (true, "83baa5cffa23bb1b56ace9c2e893c9d538b3455dfa395bb513864d1c81d3ec06") true
    news_row (fun _ h => by cases h) (by kernel_rfl) (fun _ h => by cases h) blockNews_row_tie rfl ⟨rfl, rfl⟩ (by kernel_rfl) rfl
    (fun f fn hf hfn => by
      obtain rfl : f = 3 := Option.some.inj ((show Tryd.prog.funcNamed "lockbox/lockboxlaw05.BlockNews" = some 3 by kernel_rfl).symm.trans hf) |>.symm
      obtain rfl : fn = Tryd.f3 := (Option.some.inj (Tryd.func3.symm.trans hfn)).symm
      exact ⟨by kernel_rfl, fun j t ht => by
        rw [Tryd.params3] at ht
        rcases j with _ | _ | _ | j
        · obtain rfl : t = 3 := by simpa using ht.symm
          exact (show Tryd.prog.wantsStandIn 3 = false by kernel_rfl)
        · obtain rfl : t = 22 := by simpa using ht.symm
          exact (show Tryd.prog.wantsStandIn 22 = false by kernel_rfl)
        · obtain rfl : t = 4 := by simpa using ht.symm
          exact (show Tryd.prog.wantsStandIn 4 = false by kernel_rfl)
        · simp at ht⟩)
    (by kernel_rfl)
#print axioms blockNews_card
end Go.Proofs.YtbmhmohpnhckgaaDoor
