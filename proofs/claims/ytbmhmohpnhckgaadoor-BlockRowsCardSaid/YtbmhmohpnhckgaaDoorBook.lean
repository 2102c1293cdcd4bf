/- frames; tapes, books, ciphers: the small functions -/
import Derived.Test.YtbmhmohpnhckgaaDoorProg
import Derived.Test.YtbmhmohpnhckgaaDoorMem
import Derived.Test.YtbmhmohpnhckgaaDoorBytes
import Derived.Test.YtbmhmohpnhckgaaDoorErr
import Derived.Stop.BytesEq
import Derived.Laws.Cover3
import Derived.KernelRfl
namespace Go.Proofs.YtbmhmohpnhckgaaDoor
open Go.RowKit
theorem cell_lt {w : World} {b o : Nat} {v : Value} (h : w.cell? ⟨b, o, none⟩ = some v) : b < w.heap.size := by
  rcases Nat.lt_or_ge b w.heap.size with hlt | hge
  · exact hlt
  · simp [World.cell?, Array.getElem?_eq_none hge] at h
theorem cell_alloc {w : World} {b o : Nat} {v : Value} (h : w.cell? ⟨b, o, none⟩ = some v) (ob : Obj) : (w.alloc ob).cell? ⟨b, o, none⟩ = some v :=
  (World.cell?_alloc_lt w ob ⟨b, o, none⟩ (cell_lt h)).trans h
theorem cell_below {w w' : World} {b o : Nat} {v : Value} (h : w.cell? ⟨b, o, none⟩ = some v) (hb : Below w.heap.size w w') : w'.cell? ⟨b, o, none⟩ = some v :=
  (World.cell?_of_block (w := w) (a := ⟨b, o, none⟩) (hb.block b (cell_lt h))).trans h
/-- blocks outside F are as they were -/
structure Fr (F : Nat → Prop) (w w' : World) : Prop where
  os : w'.os = w.os
  tape : w'.tape = w.tape
  output : w'.output = w.output
  size : w.heap.size ≤ w'.heap.size
  block : ∀ i, i < w.heap.size → ¬ F i → w'.heap[i]? = w.heap[i]?
section
variable {F G : Nat → Prop} {a b c : World}
theorem Fr.refl (F : Nat → Prop) (w : World) : Fr F w w := ⟨rfl, rfl, rfl, Nat.le_refl _, fun _ _ _ => rfl⟩
/-- the second one's blocks are the first one's, or new -/
theorem Fr.trans (h : Fr F a b) (k : Fr G b c) (hG : ∀ i, G i → F i ∨ a.heap.size ≤ i) : Fr F a c :=
  ⟨k.os.trans h.os, k.tape.trans h.tape, k.output.trans h.output, Nat.le_trans h.size k.size, fun i hi hn => (k.block i (by have := h.size; omega) (fun hg => by
    rcases hG i hg with h1 | h1
    · exact hn h1
    · omega)).trans (h.block i hi hn)⟩
theorem Fr.mono (h : Fr F a b) (hG : ∀ i, F i → G i) : Fr G a b := ⟨h.os, h.tape, h.output, h.size, fun i hi hn => h.block i hi (fun hf => hn (hG i hf))⟩
theorem Fr.of_below (h : Below a.heap.size a b) (F : Nat → Prop) : Fr F a b := ⟨h.os, h.tape, h.output, h.size, fun i hi _ => h.block i hi⟩
theorem Fr.of_only {g : Nat} (h : a.grownBy b (some g)) (F : Nat → Prop) (hg : F g ∨ a.heap.size ≤ g) : Fr F a b :=
  ⟨h.os, h.tape, h.output, h.size, fun i hi hn => h.block i hi (by
    rintro e; injection e with e; subst e
    rcases hg with h1 | h1
    · exact hn h1
    · omega)⟩
theorem Fr.below (h : Fr F a b) {B : Nat} (hB : B ≤ a.heap.size) (hF : ∀ i, F i → B ≤ i) : Below B a b :=
  ⟨h.os, h.tape, h.output, h.size, fun i hi => h.block i (by omega) (fun hf => by have := hF i hf; omega)⟩
theorem Fr.then_below (h : Fr F a b) (k : Below b.heap.size b c) : Fr F a c := h.trans (Fr.of_below k (fun _ => False)) (fun _ h => h.elim)
theorem Fr.alloc (h : Fr F a b) (o : Obj) : Fr F a (b.alloc o) := h.then_below ((Below.refl _ _).alloc (Nat.le_refl _) o)
theorem Fr.drewN (h : Fr F a b) (n : Nat) : Fr F a (b.drewN n) := h.then_below (below_drewN (Below.refl _ _) n)
theorem Fr.setCell (h : Fr F a b) {p : Addr} (hp : F p.block ∨ a.heap.size ≤ p.block) (u : Value) : Fr F a (b.setCell p u) :=
  h.trans (G := fun i => i = p.block) (Fr.of_only (only_of_setCell b p u) _ (.inl rfl)) (by rintro i rfl; exact hp)
theorem Fr.setRow (h : Fr F a b) {g : Nat} (hp : F g ∨ a.heap.size ≤ g) (u : Array Value) : Fr F a (b.setRow g u) :=
  h.trans (G := fun i => i = g) (Fr.of_only (only_of_setRow b g u) _ (.inl rfl)) (by rintro i rfl; exact hp)
theorem Blk.fr {g : Nat} {t : TypeId} {x : Array Value} (hb : Blk a g t x) (h : Fr F a b) (hg : ¬ F g) : Blk b g t x := (h.block g hb.lt hg).trans hb
theorem Rd.fr {A : Option Addr} {l : List UInt8} (hr : Rd a A l) (h : Fr F a b) (hA : ∀ ad, A = some ad → ¬ F ad.block) : Rd b A l := fun hn => by
  obtain ⟨ad, e, hlt, hs', hc⟩ := hr hn
  exact ⟨ad, e, by have := h.size; omega, hs', fun j x hx => (World.cell?_of_block (w := a) (by rw [block_of_add]; exact h.block _ hlt (hA ad e))).trans (hc j x hx)⟩
theorem Own.fr {base : Nat} {A : Option Addr} {cp : Nat} {l : List UInt8} (ho : Own a base A cp l) (h : Fr F a b) (hA : ∀ k, blkOf A = some k → ¬ F k) : Own b base A cp l := by
  refine ⟨ho.1, ?_⟩
  rcases ho.2 with hn | ⟨g, cap, cur, hv, hb, hg, r⟩
  · exact .inl hn
  · refine .inr ⟨g, cap, cur, hv, hb, ?_, r⟩
    have hlt : g < a.heap.size := Blk.lt hg
    refine (h.block g hlt (hA g ?_)).trans hg
    injection hv with h1 _ _
    rw [h1]; rfl
theorem ErrVar.fr (hv : ErrVar a) (h : Fr F a b) (h0 : ¬ F 0) : ErrVar b := (World.cell?_of_block (w := a) (h.block 0 hv.lt h0)).trans hv
end
theorem eql_nil_slice (A : Option Addr) (n c : Nat) (w : World) : (binOp .eql 22 (.slice A n c) (.slice none 0 0)).run Tryd.prog w = .ok (.bool A.isNone) w := by
  have h : ∀ d : Nat, (Op.equalIn (d + 1) 22 (.slice A n c) (.slice none 0 0)).run Tryd.prog w = .ok A.isNone w := fun d => run_equalIn_slice_nil w d _ _ A n c Tryd.underlying22
  simp only [binOp]
  simp [Op.equal, Op.maxDepth, h 9999]
set_option maxRecDepth 100000 in
theorem clone_any (A : Option Addr) (n c : Nat) (l : List UInt8) (w : World) (hn : n = l.length) (hr : Rd w A l) (hlen : l.length ≤ 140737488355328) :
    Calls Tryd.prog 23 #[.slice A n c] w fun e w' => ∃ A' c', e = .returned (.slice A' n c') ∧ Own w' w.heap.size A' c' l ∧ Below w.heap.size w w' := by
  subst hn
  rcases A with _ | ad
  · have hl : l = [] := by
      rcases Nat.eq_zero_or_pos l.length with h0 | h0
      · exact List.eq_nil_of_length_eq_zero h0
      · obtain ⟨ad, h, _⟩ := hr h0; cases h
    subst hl
    have q := eql_nil_slice none 0 c
    go_enter Tryd.func23, Tryd.ntmps23
    go_wp2
    go_ret
    exact ⟨none, 0, rfl, Own.nil _ _, Below.refl _ _⟩
  · have q := eql_nil_slice (some ad) l.length c
    go_enter Tryd.func23, Tryd.ntmps23
    go_wp2_with (first
      | (at_builtin; refine wpList_app rfl _ _ rfl w.heap.size _ _ _ [] rfl rfl (Own.of_blk (g := w.heap.size) (by exact Blk.new _ _ _) (Nat.le_refl _) (by simp)) _ _ _ l rfl rfl (hr.alloc _) (by simp; omega) (by simp) ?_; intro A1 c1 w1 hown1 hg1 hat1; rw [List.nil_append]))
    go_ret
    rw [List.nil_append] at hown1
    exact ⟨A1, c1, rfl, hown1, ((Below.refl _ _).alloc (Nat.le_refl _) _).grown hg1 (by simp) (by intro k hk; simp [blkOf] at hk; omega)⟩
/-- a tape -/
def TapeAt (w : World) (tp : Nat) (T : Option Addr) (cT : Nat) (tape : List UInt8) : Prop := Blk w tp 78 #[.slice T tape.length cT] ∧ Rd w T tape ∧ tape.length ≤ cT
set_option maxRecDepth 100000 in
theorem tapeNew_any (A : Option Addr) (n c : Nat) (l : List UInt8) (w : World) (hn : n = l.length) (hr : Rd w A l) (hlen : l.length ≤ 65536) :
    Calls Tryd.prog 20 #[.slice A n c] w fun e w' => ∃ tp T cT, e = .returned (.tuple #[.pointer (some ⟨tp, 0, none⟩), .nilIface]) ∧ TapeAt w' tp T cT l ∧ w.heap.size ≤ tp ∧ (∀ ad, T = some ad → w.heap.size ≤ ad.block ∧ ad.block < tp) ∧ Below w.heap.size w w' := by
  subst hn
  go_enter Tryd.func20, Tryd.ntmps20
  go_wp2_with (fail)
  refine (clone_any A _ c l _ rfl hr (by omega)).mono ?_
  rintro e w1 ⟨T, cT, rfl, hown, hb⟩
  go_wp2
  go_ret2
  have hs := hb.size
  refine ⟨w1.heap.size, T, cT, rfl, ⟨Blk.new _ _ _, hown.rd.alloc _, ?_⟩, hs, ?_, hb.alloc hs _⟩
  · rcases hown.form with ⟨_, h⟩ | ⟨_, _, _, _, h⟩
    · rw [h]; simp
    · exact h
  · intro ad e
    exact hown.lt ad.block (by rw [e]; rfl)
set_option maxRecDepth 100000 in
theorem newBook_any (t : Option Addr) (w : World) : Calls Tryd.prog 21 #[.pointer t] w fun e w' => e = .returned (.pointer (some ⟨w.heap.size, 0, none⟩)) ∧ w' = w.alloc (.cells #[.slice none 0 0, .pointer t] 76) := by
  go_enter Tryd.func21, Tryd.ntmps21
  go_wp2
  go_ret
  exact ⟨rfl, rfl⟩
set_option maxRecDepth 100000 in
theorem size_any (p : Nat) (kind : Int) (K B : Value) (w : World) (hb : Blk w p 62 #[.int .i64 kind, K, B]) :
    Calls Tryd.prog 14 #[.pointer (some ⟨p, 0, none⟩)] w fun e w' => e = .returned (.int .i64 (if kind = 2 then 8 else 16)) ∧ w' = w := by
  have h0 := hb.cell 0
  by_cases hk : kind = 2
  · subst hk
    go_enter Tryd.func14, Tryd.ntmps14
    go_wp2
    go_ret
    exact ⟨rfl, rfl⟩
  · have hk' : (kind == 2) = false := by simpa using hk
    go_enter Tryd.func14, Tryd.ntmps14
    go_wp2
    go_ret
    exact ⟨rfl, rfl⟩
/-- may a key be of a kind? -/
def fitsK (kind : Int) (n : Nat) : Bool := if kind = 1 then n == 16 || n == 24 || n == 32 else if kind = 2 then n == 8 || n == 16 || n == 24 else decide (1 ≤ n) && decide (n ≤ 32)
set_option maxRecDepth 100000 in
theorem fits_any (kind : Int) (n : Int) (m : Nat) (hn : n = m) (hk : kind = 1 ∨ kind = 2 ∨ kind = 3) (w : World) :
    Calls Tryd.prog 22 #[.int .i64 kind, .int .i64 n] w fun e w' => e = .returned (.bool (fitsK kind m)) ∧ w' = w := by
  subst hn
  have b1 : ((m : Int) == 16) = (m == 16) := by rw [Bool.eq_iff_iff]; simp; omega
  have b2 : ((m : Int) == 24) = (m == 24) := by rw [Bool.eq_iff_iff]; simp; omega
  have b3 : ((m : Int) == 32) = (m == 32) := by rw [Bool.eq_iff_iff]; simp; omega
  have b4 : ((m : Int) == 8) = (m == 8) := by rw [Bool.eq_iff_iff]; simp; omega
  have b5 : (decide ((1 : Int) ≤ (m : Int))) = decide (1 ≤ m) := by rw [Bool.eq_iff_iff]; simp; omega
  have b6 : (decide ((m : Int) ≤ 32)) = decide (m ≤ 32) := by rw [Bool.eq_iff_iff]; simp; omega
  rcases hk with rfl | rfl | rfl
  · go_enter Tryd.func22, Tryd.ntmps22
    generalize hr : fitsK 1 m = r
    go_wp2_with fail
    all_goals (go_ret; subst hr; refine ⟨?_, rfl⟩; congr 1 <;> (unfold fitsK; simp_all))
  · go_enter Tryd.func22, Tryd.ntmps22
    generalize hr : fitsK 2 m = r
    go_wp2_with fail
    all_goals (go_ret; subst hr; refine ⟨?_, rfl⟩; congr 1 <;> (unfold fitsK; simp_all))
  · go_enter Tryd.func22, Tryd.ntmps22
    generalize hr : fitsK 3 m = r
    go_wp2_with fail
    all_goals (go_ret; subst hr; refine ⟨?_, rfl⟩; congr 1 <;> (unfold fitsK; simp_all))
theorem new_kind (kind : Int) (A : Option Addr) (n c : Nat) (bk : Option Addr) (w : World) (hk : ¬(kind = 1 ∨ kind = 2 ∨ kind = 3) ∨ kind = 3 ∧ bk = none) :
    Calls Tryd.prog 11 #[.int .i64 kind, .slice A n c, .pointer bk] w fun e w' => e = .returned (.tuple #[.pointer none, .iface 59 (.int .i64 1)]) ∧ w' = w := by
  rcases hk with hk | ⟨rfl, rfl⟩
  · have k1 : (kind == 1) = false := by rw [beq_eq_false_iff_ne]; omega
    have k2 : (kind == 2) = false := by rw [beq_eq_false_iff_ne]; omega
    have k3 : (kind == 3) = false := by rw [beq_eq_false_iff_ne]; omega
    go_enter Tryd.func11, Tryd.ntmps11
    go_wp2
    go_ret2
    exact ⟨rfl, rfl⟩
  · go_enter Tryd.func11, Tryd.ntmps11
    go_wp2
    go_ret2
    exact ⟨rfl, rfl⟩
set_option maxRecDepth 100000 in
theorem new_size (kind : Int) (A : Option Addr) (n c : Nat) (bk : Option Addr) (w : World) (hk : kind = 1 ∨ kind = 2 ∨ kind = 3 ∧ bk ≠ none) (hf : fitsK kind n = false) :
    Calls Tryd.prog 11 #[.int .i64 kind, .slice A n c, .pointer bk] w fun e w' => e = .returned (.tuple #[.pointer none, .iface 59 (.int .i64 2)]) ∧ w' = w := by
  rcases hk with rfl | rfl | ⟨rfl, hb⟩
  · go_enter Tryd.func11, Tryd.ntmps11
    go_wp2_with fail
    refine (fits_any _ _ n rfl (by omega) _).mono ?_
    rintro e w1 ⟨rfl, rfl⟩
    rw [hf]
    go_wp2
    go_ret2
    exact ⟨rfl, rfl⟩
  · go_enter Tryd.func11, Tryd.ntmps11
    go_wp2_with fail
    refine (fits_any _ _ n rfl (by omega) _).mono ?_
    rintro e w1 ⟨rfl, rfl⟩
    rw [hf]
    go_wp2
    go_ret2
    exact ⟨rfl, rfl⟩
  · obtain ⟨b, rfl⟩ := Option.ne_none_iff_exists'.1 hb
    go_enter Tryd.func11, Tryd.ntmps11
    go_wp2_with fail
    refine (fits_any _ _ n rfl (by omega) _).mono ?_
    rintro e w1 ⟨rfl, rfl⟩
    rw [hf]
    go_wp2
    go_ret2
    exact ⟨rfl, rfl⟩
/-- a cipher: its block and its key's are none of F -/
def Cip (w : World) (F : Nat → Prop) (p : Nat) (kind : Int) (key : List UInt8) (bk : Option Addr) : Prop :=
  ∃ K cK, Blk w p 62 #[.int .i64 kind, .slice K key.length cK, .pointer bk] ∧ Rd w K key ∧ ¬ F p ∧ (∀ ad, K = some ad → ¬ F ad.block) ∧ key.length ≤ cK
theorem new_good (kind : Int) (A : Option Addr) (n c : Nat) (key : List UInt8) (bk : Option Addr) (w : World) (hn : n = key.length) (hr : Rd w A key) (hlen : key.length ≤ 140737488355328) (hk : kind = 1 ∨ kind = 2 ∨ kind = 3 ∧ bk ≠ none) (hf : fitsK kind n = true) :
    Calls Tryd.prog 11 #[.int .i64 kind, .slice A n c, .pointer bk] w fun e w' => ∃ p K cK, e = .returned (.tuple #[.pointer (some ⟨p, 0, none⟩), .nilIface]) ∧
      Blk w' p 62 #[.int .i64 kind, .slice K key.length cK, .pointer bk] ∧ Rd w' K key ∧ w.heap.size ≤ p ∧ (∀ ad, K = some ad → w.heap.size ≤ ad.block ∧ ad.block < p) ∧ key.length ≤ cK ∧ Below w.heap.size w w' := by
  subst hn
  rcases hk with rfl | rfl | ⟨rfl, hb⟩
  · go_enter Tryd.func11, Tryd.ntmps11
    go_wp2_with fail
    refine (fits_any _ _ key.length rfl (by omega) _).mono ?_
    rintro e w1 ⟨rfl, rfl⟩
    rw [hf]
    go_wp2_with fail
    refine (clone_any A _ c key _ rfl hr hlen).mono ?_
    rintro e w1 ⟨T, cT, rfl, hown, hb⟩
    go_wp2
    go_ret2
    exact ⟨_, T, cT, rfl, Blk.new _ _ _, hown.rd.alloc _, hb.size, fun ad e => hown.lt ad.block (by rw [e]; rfl), hown.cap, hb.alloc hb.size _⟩
  · go_enter Tryd.func11, Tryd.ntmps11
    go_wp2_with fail
    refine (fits_any _ _ key.length rfl (by omega) _).mono ?_
    rintro e w1 ⟨rfl, rfl⟩
    rw [hf]
    go_wp2_with fail
    refine (clone_any A _ c key _ rfl hr hlen).mono ?_
    rintro e w1 ⟨T, cT, rfl, hown, hb⟩
    go_wp2
    go_ret2
    exact ⟨_, T, cT, rfl, Blk.new _ _ _, hown.rd.alloc _, hb.size, fun ad e => hown.lt ad.block (by rw [e]; rfl), hown.cap, hb.alloc hb.size _⟩
  · obtain ⟨b, rfl⟩ := Option.ne_none_iff_exists'.1 hb
    go_enter Tryd.func11, Tryd.ntmps11
    go_wp2_with fail
    refine (fits_any _ _ key.length rfl (by omega) _).mono ?_
    rintro e w1 ⟨rfl, rfl⟩
    rw [hf]
    go_wp2_with fail
    refine (clone_any A _ c key _ rfl hr hlen).mono ?_
    rintro e w1 ⟨T, cT, rfl, hown, hb⟩
    go_wp2
    go_ret2
    exact ⟨_, T, cT, rfl, Blk.new _ _ _, hown.rd.alloc _, hb.size, fun ad e => hown.lt ad.block (by rw [e]; rfl), hown.cap, hb.alloc hb.size _⟩
structure BRow where
  key : List UInt8
  inn : List UInt8
  out : List UInt8
def BRow.cells (r : BRow) : List Value := .string ⟨r.key.toArray⟩ :: (r.inn.map bv ++ r.out.map bv)
def BRow.ok (r : BRow) : Prop := r.inn.length = 16 ∧ r.out.length = 16
/-- a book: F holds its blocks -/
def BookIs (w : World) (F : Nat → Prop) (p : Nat) (rows : List BRow) (tape : List UInt8) : Prop :=
  ∃ tp T cT R cR, F p ∧ F tp ∧ p ≠ tp ∧ Blk w p 76 #[.slice R rows.length cR, .pointer (some ⟨tp, 0, none⟩)] ∧ TapeAt w tp T cT tape ∧ (∀ ad, T = some ad → F ad.block ∧ ad.block ≠ p ∧ ad.block ≠ tp) ∧
    w.ownsRow 0 126 33 (.slice R rows.length cR) rows.length (rows.flatMap BRow.cells) ∧ (∀ k, blkOf R = some k → F k ∧ k ≠ p ∧ k ≠ tp ∧ ∀ ad, T = some ad → k ≠ ad.block) ∧ (∀ r ∈ rows, r.ok) ∧ ∀ i, F i → i < w.heap.size
theorem ownsRow_at {w w' : World} {base : Nat} {e : TypeId} {size : Nat} {R : Option Addr} {c n : Nat} {xs : List Value} (h : w.ownsRow base e size (.slice R n c) n xs) (hb : ∀ k, blkOf R = some k → k < w.heap.size → w'.heap[k]? = w.heap[k]?) :
    w'.ownsRow base e size (.slice R n c) n xs := by
  refine ⟨h.1, ?_⟩
  rcases h.2 with hn | ⟨g, cap, cur, hv, h1, hg, r⟩
  · exact .inl hn
  · refine .inr ⟨g, cap, cur, hv, h1, ?_, r⟩
    refine (hb g ?_ (Blk.lt hg)).trans hg
    injection hv with h2 _ _
    rw [h2]; rfl
theorem BookIs.fr {w w' : World} {F G : Nat → Prop} {p : Nat} {rows : List BRow} {tape : List UInt8} (h : BookIs w F p rows tape) (hf : Fr G w w') (hG : ∀ i, F i → ¬ G i) : BookIs w' F p rows tape := by
  obtain ⟨tp, T, cT, R, cR, h1, h2, h3, h4, h5, h6, h7, h8, h9, h10⟩ := h
  have hb : ∀ i, F i → i < w.heap.size → w'.heap[i]? = w.heap[i]? := fun i hF hi => hf.block i hi (hG i hF)
  exact ⟨tp, T, cT, R, cR, h1, h2, h3, (hb _ h1 h4.lt).trans h4, ⟨(hb _ h2 h5.1.lt).trans h5.1, h5.2.1.fr hf (fun ad e => hG _ (h6 ad e).1), h5.2.2⟩, h6, ownsRow_at h7 (fun k hk hlt => hb k (h8 k hk).1 hlt), h8, h9, fun i hi => Nat.lt_of_lt_of_le (h10 i hi) hf.size⟩
theorem BookIs.below {w w' : World} {F : Nat → Prop} {p : Nat} {rows : List BRow} {tape : List UInt8} (h : BookIs w F p rows tape) (hb : Below w.heap.size w w') : BookIs w' F p rows tape :=
  h.fr (Fr.of_below hb (fun _ => False)) (fun _ _ h => h)
theorem Cip.fr {w w' : World} {F F' G : Nat → Prop} {p : Nat} {kind : Int} {key : List UInt8} {bk : Option Addr} (h : Cip w F p kind key bk) (hf : Fr G w w') (hG : ∀ i, G i → F i ∨ w.heap.size ≤ i) (hF : ∀ i, F' i → F i ∨ w.heap.size ≤ i) (hk : 0 < key.length) : Cip w' F' p kind key bk := by
  obtain ⟨K, cK, h1, h2, h3, h4, h5⟩ := h
  have h0 : ∀ ad, K = some ad → ad.block < w.heap.size := fun ad e => by
    obtain ⟨ad', e', hlt, _⟩ := h2 hk
    rw [e] at e'; injection e' with e'; subst e'
    exact hlt
  have hp := h1.lt
  refine ⟨K, cK, h1.fr hf (fun hg => ?_), h2.fr hf (fun ad e hg => ?_), fun hg => ?_, fun ad e hg => ?_, h5⟩
  · rcases hG _ hg with h | h
    · exact h3 h
    · omega
  · have := h0 ad e
    rcases hG _ hg with h | h
    · exact h4 ad e h
    · omega
  · rcases hF _ hg with h | h
    · exact h3 h
    · omega
  · have := h0 ad e
    rcases hF _ hg with h | h
    · exact h4 ad e h
    · omega
theorem Cip.below {w w' : World} {F : Nat → Prop} {p : Nat} {kind : Int} {key : List UInt8} {bk : Option Addr} (h : Cip w F p kind key bk) (hb : Below w.heap.size w w') (hk : 0 < key.length) : Cip w' F p kind key bk :=
  h.fr (Fr.of_below hb (fun _ => False)) (fun _ h => h.elim) (fun _ h => .inl h) hk
set_option maxRecDepth 100000 in
theorem rows_any {F : Nat → Prop} {p : Nat} {rows : List BRow} {tape : List UInt8} (w : World) (h : BookIs w F p rows tape) :
    Calls Tryd.prog 19 #[.pointer (some ⟨p, 0, none⟩)] w fun e w' => e = .returned (.int .i64 (rows.length : Nat)) ∧ w' = w := by
  obtain ⟨tp, T, cT, R, cR, h1, h2, h3, h4, _⟩ := h
  have c0 := h4.cell 0
  go_enter Tryd.func19, Tryd.ntmps19
  go_wp2
  go_ret
  exact ⟨rfl, rfl⟩
end Go.Proofs.YtbmhmohpnhckgaaDoor
