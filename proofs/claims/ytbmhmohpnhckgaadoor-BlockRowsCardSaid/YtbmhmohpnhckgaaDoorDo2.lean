/- (*Cipher).Do of an oracle's cipher -/
import Derived.Test.YtbmhmohpnhckgaaDoorDo
namespace Go.Proofs.YtbmhmohpnhckgaaDoor
open Go.RowKit
set_option maxRecDepth 100000 in
set_option maxHeartbeats 1000000 in
/-- a block of a wrong length -/
theorem do_size {p : Nat} {kind : Int} {K B : Value} (w : World) (hb : Blk w p 62 #[.int .i64 kind, K, B]) (A : Option Addr) (m c : Nat) (back : Bool) (hm : m ≠ (if kind = 2 then 8 else 16)) :
    Calls Tryd.prog 16 #[.pointer (some ⟨p, 0, none⟩), .slice A m c, .bool back] w fun e w' => e = .returned (.tuple #[.slice none 0 0, .iface 59 (.int .i64 2)]) ∧ w' = w := by
  obtain ⟨s, hs⟩ : ∃ s : Int, s = (if kind = 2 then 8 else 16) := ⟨_, rfl⟩
  have hne : ((m : Int) == s) = false := by
    rw [beq_eq_false_iff_ne, hs]
    split at hm <;> simp_all <;> omega
  have HS := Lib.hid hs
  clear hs hm
  go_enter Tryd.func16, Tryd.ntmps16
  go_wp2_with fail
  refine (size_any p kind K B _ hb).mono ?_
  rintro e w1 ⟨rfl, rfl⟩
  rw [← HS.out]
  go_wp2_with fail
  go_ret2
  exact ⟨rfl, rfl⟩
set_option maxRecDepth 100000 in
set_option maxHeartbeats 8000000 in
theorem do_oracle {F : Nat → Prop} {p pb : Nat} {rows : List BRow} {tape key : List UInt8} (w : World) (hbook : BookIs w F pb rows tape) (hc : Cip w F p 3 key (some ⟨pb, 0, none⟩)) (A : Option Addr) (m c : Nat) (x : List UInt8) (hx : x.length = 16) (hm : m = 16) (hr : Rd w A x) (hk0 : 0 < key.length) (back : Bool) (hmax : rows.length ≤ 1000000) (htm : tape.length ≤ 65536) :
    Calls Tryd.prog 16 #[.pointer (some ⟨p, 0, none⟩), .slice A m c, .bool back] w fun e w' =>
      ∃ F', (∀ i, F' i → F i ∨ w.heap.size ≤ i) ∧ BookIs w' F' pb (askP rows tape key x back).2.1 (askP rows tape key x back).2.2 ∧ Fr F w w' ∧
        ((∃ y g, (askP rows tape key x back).1 = some y ∧ y.length = 16 ∧ e = .returned (.tuple #[.slice (some ⟨g, 0, none⟩) 16 16, .nilIface]) ∧ Blk w' g 41 (cs y) ∧ w.heap.size ≤ g ∧ ¬ F' g) ∨ ((askP rows tape key x back).1 = none ∧ ∃ v, e = .returned (.tuple #[.slice none 0 0, v]) ∧ ErrIs w' 13 v)) := by
  subst hm
  have hcc := hc
  obtain ⟨K, cK, hb, hrK, hnp, hnK, _⟩ := hc
  obtain ⟨bA, oA, rfl, hbA, _⟩ := hr.open_ (by omega)
  have HX := Lib.hid hx
  have zx : (Tryd.prog.info? 41).map (·.size) = some (x.map bv).length := by rw [List.length_map, hx]; exact info16'
  have hrg : w.rangeAt bA oA (x.map bv) := fun j v hv => by
    rw [List.getElem?_map] at hv
    cases hx2 : x[j]? with
    | none => rw [hx2] at hv; cases hv
    | some x2 =>
      rw [hx2] at hv
      have hv' : some (bv x2) = some v := hv
      obtain rfl := Option.some.inj hv'
      obtain ⟨ad, e, _, _, hc⟩ := hr (by omega)
      injection e with e; subst e
      have := hc j x2 hx2
      rwa [add_mk] at this
  have harr : ∀ (w : World), (Instr.arrayAt 41 (.slice (some ⟨bA, oA, none⟩) 16 c)).run Tryd.prog w = .ok (.pointer (some ⟨bA, oA, none⟩)) w := fun w => run_arrayAt w _ _ 16 _ _ c Tryd.underlying41 (by omega)
  have k0 := hb.cell 0
  clear hx
  go_enter Tryd.func16, Tryd.ntmps16
  go_wp2_with (first
    | (go_at_call 14; refine (size_any p 3 _ _ _ hb).mono ?_; rintro e w1 ⟨rfl, hw1⟩; obtain rfl := hw1.symm)
    | (refine wpList_load_mid rfl 41 _ rfl bA oA rfl (x.map bv) _ hrg Tryd.underlying41 rfl zx ?_))
  have hFb : ∀ i, F i → i < w.heap.size := by obtain ⟨_, _, _, _, _, _, _, _, _, _, _, _, _, _, h⟩ := hbook; exact h
  refine (wide_oracle _ hbook hcc x HX.out hk0 back hmax htm).mono ?_
  rintro e w2 ⟨F', hF', hbk2, hfr, hcase⟩
  have hFb2 : ∀ i, F' i → i < w2.heap.size := by obtain ⟨_, _, _, _, _, _, _, _, _, _, _, _, _, _, h⟩ := hbk2; exact h
  have hs2 := hfr.size
  have HF' := Lib.hid hF'
  have HBK := Lib.hid hbk2
  have HFR := Lib.hid hfr
  clear hF' hbk2 hfr hbook hcc hrg harr k0
  rcases hcase with ⟨y, hy, hyl, rfl⟩ | ⟨hy, v, rfl, hv⟩
  · have zy : (Tryd.prog.info? 41).map (·.size) = some (cs y).size := by rw [cs_size, hyl]; exact info16'
    have HYL := Lib.hid hyl
    have HY := Lib.hid hy
    clear hyl hy
    go_wp2_with (first
      | (refine wpList_store_new rfl 41 _ _ rfl (cs y) _ (by first | rfl | simp) rfl rfl 41 _ zy (by rw [cs_size, HYL.out]; rfl) (one_cs _) ?_))
    go_ret2
    exact ⟨F', HF'.out, HBK.out.below ((Below.refl _ _).alloc (Nat.le_refl _) _), HFR.out.alloc _, .inl ⟨y, w2.heap.size, HY.out, HYL.out, rfl, Blk.new _ _ _, hs2, fun h => by have := hFb2 _ h; omega⟩⟩
  · have HY := Lib.hid hy
    clear hy
    have zz : (Tryd.prog.info? 41).map (·.size) = some (cs zero16).size := by rw [cs_size]; exact info16'
    obtain ⟨Tv, uv, rfl⟩ : ∃ T u, v = .iface T u := by cases hv <;> exact ⟨_, _, rfl⟩
    have hv2 := hv.alloc (.cells (cs zero16) 41)
    go_wp2_with (first
      | (refine wpList_store_new rfl 41 _ _ rfl (cs zero16) _ (by first | rfl | simp) rfl rfl 41 _ zz rfl (one_cs _) ?_))
    go_ret2
    exact ⟨F', HF'.out, HBK.out.below ((Below.refl _ _).alloc (Nat.le_refl _) _), HFR.out.alloc _, .inr ⟨HY.out, _, rfl, hv2⟩⟩
end Go.Proofs.YtbmhmohpnhckgaaDoor
