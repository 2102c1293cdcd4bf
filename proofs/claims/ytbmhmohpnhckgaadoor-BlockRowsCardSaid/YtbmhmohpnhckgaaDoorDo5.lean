/- (*Cipher).Do, whatever the kind -/
import Derived.Test.YtbmhmohpnhckgaaDoorDo4
namespace Go.Proofs.YtbmhmohpnhckgaaDoor
open Go.RowKit Lb
/-- how many bytes a block has -/
def sizeK (k : Int) : Nat := if k = 2 then 8 else 16
theorem sizeK_or (k : Int) : sizeK k = 8 ∨ sizeK k = 16 := by unfold sizeK; split <;> simp
/-- what Do answers, and what the book is then -/
def doP (k : Int) (rows : List BRow) (tape key x : List UInt8) (back : Bool) : Option (List UInt8) × List BRow × List UInt8 :=
  if k = 3 then askP rows tape key x back else (some (if k = 2 then tripL key x back else aesL key x back), rows, tape)
/-- a right key of a kind -/
inductive KeyOk : Int → List UInt8 → Prop
  | aes (key : List UInt8) (h : key.length = 16 ∨ key.length = 24 ∨ key.length = 32) : KeyOk 1 key
  | des (key : List UInt8) (h : key.length = 8 ∨ key.length = 16 ∨ key.length = 24) : KeyOk 2 key
  | ora (key : List UInt8) (h : 0 < key.length) : KeyOk 3 key
theorem do_any {F : Nat → Prop} {p pb : Nat} {rows : List BRow} {tape key : List UInt8} (k : Int) (w : World) (hbook : BookIs w F pb rows tape) (hc : Cip w F p k key (some ⟨pb, 0, none⟩)) (A : Option Addr) (m c : Nat) (x : List UInt8) (hx : x.length = sizeK k) (hm : m = sizeK k) (hr : Rd w A x) (hk : KeyOk k key) (back : Bool) (hmax : rows.length ≤ 1000000) (htm : tape.length ≤ 65536) :
    Calls Tryd.prog 16 #[.pointer (some ⟨p, 0, none⟩), .slice A m c, .bool back] w fun e w' =>
      ∃ F', (∀ i, F' i → F i ∨ w.heap.size ≤ i) ∧ BookIs w' F' pb (doP k rows tape key x back).2.1 (doP k rows tape key x back).2.2 ∧ Fr F w w' ∧
        ((∃ y g t, (doP k rows tape key x back).1 = some y ∧ y.length = sizeK k ∧ e = .returned (.tuple #[.slice (some ⟨g, 0, none⟩) (sizeK k) (sizeK k), .nilIface]) ∧ Blk w' g t (cs y) ∧ w.heap.size ≤ g ∧ ¬ F' g) ∨ ((doP k rows tape key x back).1 = none ∧ k = 3 ∧ ∃ v, e = .returned (.tuple #[.slice none 0 0, v]) ∧ ErrIs w' 13 v)) := by
  have hFb : ∀ i, F i → i < w.heap.size := by obtain ⟨_, _, _, _, _, _, _, _, _, _, _, _, _, _, h⟩ := hbook; exact h
  cases hk with
  | aes key h =>
    obtain ⟨nk, hk4, hnk⟩ : ∃ nk, key.length = 4 * nk ∧ (nk = 4 ∨ nk = 6 ∨ nk = 8) := by
      rcases h with h | h | h
      · exact ⟨4, by omega, .inl rfl⟩
      · exact ⟨6, by omega, .inr (.inl rfl)⟩
      · exact ⟨8, by omega, .inr (.inr rfl)⟩
    obtain ⟨K, cK, hb, hrK, _, _, _⟩ := hc
    rw [hk4] at hb
    refine (do_aes key nk hk4 hnk w hb hrK A m c x hx hm hr back).mono ?_
    rintro e w' ⟨g, rfl, hg, hge, hB⟩
    refine ⟨F, fun i h => .inl h, hbook.below hB, Fr.of_below hB F, .inl ⟨aesL key x back, g, _, rfl, aesL_length _ _ _, rfl, hg, hge, fun h => by have := hFb _ h; omega⟩⟩
  | des key h =>
    obtain ⟨K, cK, hb, hrK, _, _, hcap⟩ := hc
    refine (do_des key rfl h hcap w hb hrK A m c x hx hm hr back).mono ?_
    rintro e w' ⟨g, rfl, hg, hge, hB⟩
    refine ⟨F, fun i h => .inl h, hbook.below hB, Fr.of_below hB F, .inl ⟨tripL key x back, g, _, rfl, tripL_length _ _ _, rfl, hg, hge, fun h => by have := hFb _ h; omega⟩⟩
  | ora key h =>
    refine (do_oracle w hbook hc A m c x hx hm hr h back hmax htm).mono ?_
    rintro e w' ⟨F', h1, h2, h3, h4⟩
    refine ⟨F', h1, h2, h3, ?_⟩
    rcases h4 with ⟨y, g, a1, a2, a3, a4, a5, a6⟩ | ⟨a1, v, a2, a3⟩
    · exact .inl ⟨y, g, _, a1, a2, a3, a4, a5, a6⟩
    · exact .inr ⟨a1, rfl, v, a2, a3⟩
end Go.Proofs.YtbmhmohpnhckgaaDoor
