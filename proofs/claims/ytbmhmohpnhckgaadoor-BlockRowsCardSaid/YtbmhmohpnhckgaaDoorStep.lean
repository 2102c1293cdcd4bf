/- a book and a cipher of it, as a law's walk carries them -/
import Derived.Test.YtbmhmohpnhckgaaDoorRight
import Derived.Test.YtbmhmohpnhckgaaDoorDoLaw
import Derived.Test.YtbmhmohpnhckgaaDoorLaw05
namespace Go.Proofs.YtbmhmohpnhckgaaDoor
open Go.RowKit Lb
theorem Rd.of_blk_take {w : World} {g : Nat} {t : TypeId} {l : List UInt8} (h : Blk w g t (cs l)) (s : Nat) : Rd w (some ⟨g, 0, none⟩) (l.take s) := fun hn => by
  refine ⟨_, rfl, h.lt, rfl, fun j x hx => ?_⟩
  have hj : j < (l.take s).length := (List.getElem?_eq_some_iff.1 hx).1
  rw [add_mk, h.cell, cs_get, Nat.zero_add]
  rw [List.getElem?_take_of_lt (by rw [List.length_take] at hj; omega)] at hx
  rw [hx]; rfl
theorem len16 : Tryd.prog.arrayLen 41 = 16 := by kernel_rfl
/-- the first s bytes of an array of sixteen -/
theorem slice16 (b s : Nat) (hs : s ≤ 16) (w : World) : (Instr.sliceAt 41 (.pointer (some ⟨b, 0, none⟩)) none (some (.int .i64 (s : Int))) none).run Tryd.prog w = .ok (.slice (some ⟨b, 0, none⟩) s 16) w := by
  have h := run_sliceAt_array_h (P := Tryd.prog) w 41 ⟨b, 0, none⟩ (by kernel_rfl) .i64 (s : Int) (by omega) (by rw [len16]; omega)
  have e : (sizeOf (Tryd.prog.elem 41)).run Tryd.prog w = .ok 1 w := by kernel_rfl
  rw [h, e, len16]
  simp only [Result.andThen_ok, slicedAt, Int.toNat_natCast, Nat.sub_zero]
  congr 3
/-- a book whose blocks lie above b0, and two ciphers of it -/
structure Rdy (b0 : Nat) (w : World) (F : Nat → Prop) (pb : Nat) (rows : List BRow) (tape : List UInt8) : Prop where
  book : BookIs w F pb rows tape
  low : ∀ i, F i → b0 < i
  size : b0 < w.heap.size
theorem Rdy.below {b0 : Nat} {w w' : World} {F : Nat → Prop} {pb : Nat} {rows : List BRow} {tape : List UInt8} (h : Rdy b0 w F pb rows tape) (hb : Below w.heap.size w w') : Rdy b0 w' F pb rows tape :=
  ⟨h.book.below hb, h.low, Nat.lt_of_lt_of_le h.size hb.size⟩
theorem KeyOk.pos {k : Int} {key : List UInt8} (h : KeyOk k key) : 0 < key.length := by cases h <;> omega
theorem not_new {F F' : Nat → Prop} {w : World} {g : Nat} (hF : ∀ i, F' i → F i ∨ w.heap.size ≤ i) (hg : ¬ F g) (hl : g < w.heap.size) : ¬ F' g := fun h => by
  rcases hF g h with h1 | h1
  · exact hg h1
  · omega
theorem do_step {b0 : Nat} {F : Nat → Prop} {p pb : Nat} {rows : List BRow} {tape key : List UInt8} (k : Int) (s : Nat) (hs : s = sizeK k) (w : World) (hrdy : Rdy b0 w F pb rows tape) (hc : Cip w F p k key (some ⟨pb, 0, none⟩)) (A : Option Addr) (c : Nat) (x : List UInt8) (hx : x.length = s) (hr : Rd w A x) (hk : KeyOk k key) (back : Bool) (hmax : rows.length ≤ 1000000) (htm : tape.length ≤ 65536) :
    Calls Tryd.prog 16 #[.pointer (some ⟨p, 0, none⟩), .slice A s c, .bool back] w fun e w' =>
      ∃ F', (∀ i, F' i → F i ∨ w.heap.size ≤ i) ∧ Rdy b0 w' F' pb (doP k rows tape key x back).2.1 (doP k rows tape key x back).2.2 ∧ Cip w' F' p k key (some ⟨pb, 0, none⟩) ∧ Fr F w w' ∧ Below (b0 + 1) w w' ∧ (ErrVar w → ErrVar w') ∧
        ((∃ y g t, (doP k rows tape key x back).1 = some y ∧ y.length = s ∧ e = .returned (.tuple #[.slice (some ⟨g, 0, none⟩) s s, .nilIface]) ∧ Blk w' g t (cs y) ∧ w.heap.size ≤ g ∧ ¬ F' g) ∨ ((doP k rows tape key x back).1 = none ∧ k = 3 ∧ ∃ T u, e = .returned (.tuple #[.slice none 0 0, .iface T u]) ∧ ErrIs w' 13 (.iface T u))) := by
  subst hs
  refine (do_any k w hrdy.book hc A (sizeK k) c x hx rfl hr hk back hmax htm).mono ?_
  rintro e w' ⟨F', h1, h2, h3, h4⟩
  refine ⟨F', h1, ⟨h2, fun i hi => ?_, Nat.lt_of_lt_of_le hrdy.size h3.size⟩, hc.fr h3 (fun i h => .inl h) h1 hk.pos, h3, h3.below hrdy.size (fun i hi => hrdy.low i hi), fun hv => hv.fr h3 (fun h => by have := hrdy.low 0 h; omega), ?_⟩
  · rcases h1 i hi with h | h
    · exact hrdy.low i h
    · have := hrdy.size; omega
  · rcases h4 with h | ⟨a, b, v, rfl, hv⟩
    · exact .inl h
    · refine .inr ⟨a, b, ?_⟩
      obtain ⟨Tv, uv, rfl⟩ : ∃ T u, v = .iface T u := by cases hv <;> exact ⟨_, _, rfl⟩
      exact ⟨Tv, uv, rfl, hv⟩
theorem size_s (p : Nat) (k : Int) (s : Nat) (hs : s = sizeK k) {w : World} {F : Nat → Prop} {key : List UInt8} {bk : Option Addr} (hc : Cip w F p k key bk) :
    Calls Tryd.prog 14 #[.pointer (some ⟨p, 0, none⟩)] w fun e w' => e = .returned (.int .i64 (s : Int)) ∧ w' = w := by
  obtain ⟨K, cK, hb, _⟩ := hc
  refine (size_any p k _ _ w hb).mono ?_
  rintro e w' ⟨rfl, h⟩
  refine ⟨?_, h⟩
  rw [hs]; unfold sizeK
  by_cases h2 : k = 2
  · rw [if_pos h2, if_pos h2]; rfl
  · rw [if_neg h2, if_neg h2]; rfl
/-- a right cipher of a kind, made -/
theorem new_right {b0 : Nat} {F : Nat → Prop} {pb : Nat} {rows : List BRow} {tape : List UInt8} (k : Int) (hk : k = 1 ∨ k = 2 ∨ k = 3) (key ky : List UInt8) (hky : ky = rightL k key) (A : Option Addr) (c : Nat) (w : World) (hrdy : Rdy b0 w F pb rows tape) (hr : Rd w A ky) :
    Calls Tryd.prog 11 #[.int .i64 k, .slice A (rightN k) c, .pointer (some ⟨pb, 0, none⟩)] w fun e w' => ∃ p, e = .returned (.tuple #[.pointer (some ⟨p, 0, none⟩), .nilIface]) ∧ Cip w' F p k ky (some ⟨pb, 0, none⟩) ∧ Below w.heap.size w w' := by
  subst hky
  have hl := rightL_length k key
  have hFb : ∀ i, F i → i < w.heap.size := by obtain ⟨_, _, _, _, _, _, _, _, _, _, _, _, _, _, h⟩ := hrdy.book; exact h
  refine (new_good k A (rightN k) c (rightL k key) (some ⟨pb, 0, none⟩) w hl.symm hr (by rw [hl]; rcases hk with rfl | rfl | rfl <;> decide) (by rcases hk with h | h | h; exact .inl h; exact .inr (.inl h); exact .inr (.inr ⟨h, by simp⟩)) (by have := right_fits k key hk; rwa [hl] at this)).mono ?_
  rintro e w' ⟨p, K, cK, rfl, hp, hK, hps, hKs, hcK, hB⟩
  exact ⟨p, rfl, ⟨K, cK, hp, hK, fun h => by have := hFb _ h; omega, fun ad e h => by have := hFb _ h; have := (hKs ad e).1; omega, hcK⟩, hB⟩
theorem book_rdy (b0 : Nat) (A : Option Addr) (n c : Nat) (l : List UInt8) (w : World) (hn : n = l.length) (hr : Rd w A l) (hlen : l.length ≤ 65536) (hb : b0 < w.heap.size) :
    Calls Tryd.prog 10 #[.slice A n c] w fun e w' => ∃ p F, e = .returned (.tuple #[.pointer (some ⟨p, 0, none⟩), .bool true]) ∧ Rdy b0 w' F p [] l ∧ (∀ i, F i → w.heap.size ≤ i) ∧ Below w.heap.size w w' := by
  refine (book_any A n c l w hn hr hlen).mono ?_
  rintro e w' ⟨p, rfl, h, hB⟩
  exact ⟨p, _, rfl, ⟨h, fun i hi => by omega, by have := hB.size; omega⟩, fun i hi => hi.1, hB⟩
end Go.Proofs.YtbmhmohpnhckgaaDoor
