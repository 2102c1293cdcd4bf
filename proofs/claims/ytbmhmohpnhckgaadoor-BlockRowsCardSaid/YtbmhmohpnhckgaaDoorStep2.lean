/- a cipher all of whose blocks are known to lie in a range -/
import Derived.Test.YtbmhmohpnhckgaaDoorStep
namespace Go.Proofs.YtbmhmohpnhckgaaDoor
open Go.RowKit Lb
theorem Cip.mono {w : World} {F F' : Nat → Prop} {p : Nat} {kind : Int} {key : List UInt8} {bk : Option Addr} (h : Cip w F p kind key bk) (hF : ∀ i, F' i → F i) : Cip w F' p kind key bk := by
  obtain ⟨K, cK, h1, h2, h3, h4, h5⟩ := h
  exact ⟨K, cK, h1, h2, fun h => h3 (hF _ h), fun ad e h => h4 ad e (hF _ h), h5⟩
/-- the same: all its blocks are the call's own -/
theorem new_right' {b0 : Nat} {F : Nat → Prop} {pb : Nat} {rows : List BRow} {tape : List UInt8} (k : Int) (hk : k = 1 ∨ k = 2 ∨ k = 3) (key ky : List UInt8) (hky : ky = rightL k key) (A : Option Addr) (c : Nat) (w : World) (_hrdy : Rdy b0 w F pb rows tape) (hr : Rd w A ky) :
    Calls Tryd.prog 11 #[.int .i64 k, .slice A (rightN k) c, .pointer (some ⟨pb, 0, none⟩)] w fun e w' => ∃ p, e = .returned (.tuple #[.pointer (some ⟨p, 0, none⟩), .nilIface]) ∧ Cip w' (fun i => i < w.heap.size ∨ w'.heap.size ≤ i) p k ky (some ⟨pb, 0, none⟩) ∧ Below w.heap.size w w' := by
  subst hky
  have hl := rightL_length k key
  refine (new_good k A (rightN k) c (rightL k key) (some ⟨pb, 0, none⟩) w hl.symm hr (by rw [hl]; rcases hk with rfl | rfl | rfl <;> decide) (by rcases hk with h | h | h; exact .inl h; exact .inr (.inl h); exact .inr (.inr ⟨h, by simp⟩)) (by have := right_fits k key hk; rwa [hl] at this)).mono ?_
  rintro e w' ⟨p, K, cK, rfl, hp, hK, hps, hKs, hcK, hB⟩
  have hpl := hp.lt
  exact ⟨p, rfl, ⟨K, cK, hp, hK, fun h => by omega, fun ad e h => by have := hKs ad e; omega, hcK⟩, hB⟩
end Go.Proofs.YtbmhmohpnhckgaaDoor
