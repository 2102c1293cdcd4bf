import Derived.Test.YtbmhmohpnhckgaaDoorAesPlain
import Derived.Test.YtbmhmohpnhckgaaDoorGfMath
/- plain laws of AES: what is enciphered and deciphered is what it was, and the other way round -/
namespace Lb
/-- alike at the sixteen places -/
def Al (F G : St) : Prop := ∀ i, i < 16 → F i = G i
theorem Al.refl (F : St) : Al F F := fun _ _ => rfl
theorem Al.symm {F G : St} (h : Al F G) : Al G F := fun i hi => (h i hi).symm
theorem Al.trans {F G H : St} (h : Al F G) (k : Al G H) : Al F H := fun i hi => (h i hi).trans (k i hi)
theorem Al.tab {F G : St} (h : Al F G) : tab 16 F = tab 16 G := tab_congr _ _ _ h
theorem Al.withK {F G : St} (h : Al F G) (w : List UInt8) (r : Nat) : Al (withK F w r) (withK G w r) := fun i hi => by unfold Lb.withK; rw [h i hi]
theorem Al.boxesK {F G : St} (h : Al F G) (b : UInt8 → UInt8) : Al (boxesK F b) (boxesK G b) := fun i hi => by unfold Lb.boxesK; rw [h i hi]
theorem Al.rowsK {F G : St} (h : Al F G) (t : Nat) : Al (rowsK F t) (rowsK G t) := fun i _ => by unfold Lb.rowsK; exact h _ (Nat.mod_lt _ (by decide))
theorem col_lt (i k : Nat) (hi : i < 16) : i / 4 * 4 + (i + k) % 4 < 16 := by omega
theorem Al.colsK {F G : St} (h : Al F G) (m : St) : Al (colsK F m) (colsK G m) := fun i hi => by
  unfold Lb.colsK
  simp only [colSum]
  rw [h _ (col_lt i 0 hi), h _ (col_lt i 1 hi), h _ (col_lt i 2 hi), h _ (col_lt i 3 hi)]
theorem xor_xor (a b : UInt8) : (a ^^^ b) ^^^ b = a := by rw [UInt8.xor_assoc, UInt8.xor_self, UInt8.xor_zero]
theorem with_with (F : St) (w : List UInt8) (r : Nat) : withK (withK F w r) w r = F := by funext i; unfold withK; exact xor_xor _ _
theorem box_un (F : St) : boxesK (boxesK F gbox) gunbox = F := by funext i; unfold boxesK; exact unbox_box _
theorem un_box (F : St) : boxesK (boxesK F gunbox) gbox = F := by funext i; unfold boxesK; exact box_unbox _
theorem place13 : ∀ i, i < 16 → ((i + 4 * (i % 4) * 3) % 16 + 4 * ((i + 4 * (i % 4) * 3) % 16 % 4) * 1) % 16 = i := by decide
theorem place31 : ∀ i, i < 16 → ((i + 4 * (i % 4) * 1) % 16 + 4 * ((i + 4 * (i % 4) * 1) % 16 % 4) * 3) % 16 = i := by decide
theorem rows_13 (F : St) : Al (rowsK (rowsK F 1) 3) F := fun i hi => by unfold rowsK; rw [place13 i hi]
theorem rows_31 (F : St) : Al (rowsK (rowsK F 3) 1) F := fun i hi => by unfold rowsK; rw [place31 i hi]
theorem lin4 (p q r s : UInt8) (c : UInt8) (h : ∀ x, gmul p x ^^^ gmul q x ^^^ gmul r x ^^^ gmul s x = gmul c x) (x : UInt8) : gmul p x ^^^ gmul q x ^^^ gmul r x ^^^ gmul s x = gmul c x := h x
theorem gsum (p q r s x : UInt8) : gmul p x ^^^ gmul q x ^^^ gmul r x ^^^ gmul s x = gmul (p ^^^ q ^^^ r ^^^ s) x := by rw [gmul_xorL, gmul_xorL, gmul_xorL]
theorem zero_xor8 (x : UInt8) : 0 ^^^ x = x := UInt8.zero_xor
theorem sort16 (a0 a1 a2 a3 b0 b1 b2 b3 c0 c1 c2 c3 d0 d1 d2 d3 : UInt8) :
    (a0 ^^^ b0 ^^^ c0 ^^^ d0) ^^^ (b1 ^^^ c1 ^^^ d1 ^^^ a1) ^^^ (c2 ^^^ d2 ^^^ a2 ^^^ b2) ^^^ (d3 ^^^ a3 ^^^ b3 ^^^ c3) =
      (a0 ^^^ a1 ^^^ a2 ^^^ a3) ^^^ (b0 ^^^ b1 ^^^ b2 ^^^ b3) ^^^ (c0 ^^^ c1 ^^^ c2 ^^^ c3) ^^^ (d0 ^^^ d1 ^^^ d2 ^^^ d3) := by ac_rfl
/-- two circulant matrices -/
theorem circ (m0 m1 m2 m3 n0 n1 n2 n3 a b c d : UInt8) (h0 : gmul n0 m0 ^^^ gmul n1 m3 ^^^ gmul n2 m2 ^^^ gmul n3 m1 = 1) (h1 : gmul n0 m1 ^^^ gmul n1 m0 ^^^ gmul n2 m3 ^^^ gmul n3 m2 = 0)
    (h2 : gmul n0 m2 ^^^ gmul n1 m1 ^^^ gmul n2 m0 ^^^ gmul n3 m3 = 0) (h3 : gmul n0 m3 ^^^ gmul n1 m2 ^^^ gmul n2 m1 ^^^ gmul n3 m0 = 0) :
    gmul n0 (gmul m0 a ^^^ gmul m1 b ^^^ gmul m2 c ^^^ gmul m3 d) ^^^ gmul n1 (gmul m0 b ^^^ gmul m1 c ^^^ gmul m2 d ^^^ gmul m3 a) ^^^ gmul n2 (gmul m0 c ^^^ gmul m1 d ^^^ gmul m2 a ^^^ gmul m3 b) ^^^ gmul n3 (gmul m0 d ^^^ gmul m1 a ^^^ gmul m2 b ^^^ gmul m3 c) = a := by
  simp only [gmul_xorR, ← gmul_assoc]
  rw [sort16, gsum, gsum, gsum, gsum, h0, h1, h2, h3, gmul_1, gmul_0, gmul_0, gmul_0, UInt8.xor_zero, UInt8.xor_zero, UInt8.xor_zero]
theorem colsK_at (F m : St) (i : Nat) (q r : Nat) (hq : i = 4 * q + r) (hr : r < 4) :
    colsK F m i = gmul (m 0) (F (4 * q + r)) ^^^ gmul (m 1) (F (4 * q + (r + 1) % 4)) ^^^ gmul (m 2) (F (4 * q + (r + 2) % 4)) ^^^ gmul (m 3) (F (4 * q + (r + 3) % 4)) := by
  have e0 : i / 4 * 4 = 4 * q := by omega
  have e1 : ∀ k, (i + k) % 4 = (r + k) % 4 := fun k => by omega
  have e2 : (r + 0) % 4 = r := by omega
  unfold colsK
  simp only [colSum, e0, e1, e2, zero_xor8]
theorem cols_cols (F m n : St) (h0 : gmul (n 0) (m 0) ^^^ gmul (n 1) (m 3) ^^^ gmul (n 2) (m 2) ^^^ gmul (n 3) (m 1) = 1) (h1 : gmul (n 0) (m 1) ^^^ gmul (n 1) (m 0) ^^^ gmul (n 2) (m 3) ^^^ gmul (n 3) (m 2) = 0)
    (h2 : gmul (n 0) (m 2) ^^^ gmul (n 1) (m 1) ^^^ gmul (n 2) (m 0) ^^^ gmul (n 3) (m 3) = 0) (h3 : gmul (n 0) (m 3) ^^^ gmul (n 1) (m 2) ^^^ gmul (n 2) (m 1) ^^^ gmul (n 3) (m 0) = 0) : Al (colsK (colsK F m) n) F := fun i hi => by
  obtain ⟨q, r, hq, hr⟩ : ∃ q r, i = 4 * q + r ∧ r < 4 := ⟨i / 4, i % 4, by omega, by omega⟩
  have hq4 : q < 4 := by omega
  rw [colsK_at _ n i q r hq hr]
  rw [colsK_at F m (4 * q + r) q r rfl hr, colsK_at F m (4 * q + (r + 1) % 4) q ((r + 1) % 4) rfl (by omega), colsK_at F m (4 * q + (r + 2) % 4) q ((r + 2) % 4) rfl (by omega), colsK_at F m (4 * q + (r + 3) % 4) q ((r + 3) % 4) rfl (by omega)]
  have f11 : ((r + 1) % 4 + 1) % 4 = (r + 2) % 4 := by omega
  have f12 : ((r + 1) % 4 + 2) % 4 = (r + 3) % 4 := by omega
  have f13 : ((r + 1) % 4 + 3) % 4 = r := by omega
  have f21 : ((r + 2) % 4 + 1) % 4 = (r + 3) % 4 := by omega
  have f22 : ((r + 2) % 4 + 2) % 4 = r := by omega
  have f23 : ((r + 2) % 4 + 3) % 4 = (r + 1) % 4 := by omega
  have f31 : ((r + 3) % 4 + 1) % 4 = r := by omega
  have f32 : ((r + 3) % 4 + 2) % 4 = (r + 1) % 4 := by omega
  have f33 : ((r + 3) % 4 + 3) % 4 = (r + 2) % 4 := by omega
  rw [f11, f12, f13, f21, f22, f23, f31, f32, f33, hq]
  exact circ _ _ _ _ _ _ _ _ _ _ _ _ h0 h1 h2 h3
theorem cols_ED (F : St) : Al (colsK (colsK F mE) mD) F := cols_cols F mE mD (by decide +kernel) (by decide +kernel) (by decide +kernel) (by decide +kernel)
theorem cols_DE (F : St) : Al (colsK (colsK F mD) mE) F := cols_cols F mD mE (by decide +kernel) (by decide +kernel) (by decide +kernel) (by decide +kernel)
/-- one round, and its contrary -/
def rE (w : List UInt8) (n r : Nat) (b : St) : St := withK (if r < n then colsK (rowsK (boxesK b gbox) 1) mE else rowsK (boxesK b gbox) 1) w r
def rD (w : List UInt8) (n r : Nat) (b : St) : St := boxesK (rowsK (if r < n then colsK (withK b w r) mD else withK b w r) 3) gunbox
theorem Al.rE {F G : St} (h : Al F G) (w : List UInt8) (n r : Nat) : Al (rE w n r F) (rE w n r G) := by
  unfold Lb.rE
  split
  · exact ((((h.boxesK _).rowsK _).colsK _).withK _ _)
  · exact (((h.boxesK _).rowsK _).withK _ _)
theorem Al.rD {F G : St} (h : Al F G) (w : List UInt8) (n r : Nat) : Al (rD w n r F) (rD w n r G) := by
  unfold Lb.rD
  split
  · exact (((h.withK _ _).colsK _).rowsK _).boxesK _
  · exact ((h.withK _ _).rowsK _).boxesK _
theorem rD_rE (w : List UInt8) (n r : Nat) (b : St) : Al (rD w n r (rE w n r b)) b := by
  unfold rD rE
  split
  · rw [with_with]
    exact (((cols_ED _).rowsK 3).trans (rows_13 _)).boxesK gunbox |>.trans (by rw [box_un]; exact Al.refl _)
  · rw [with_with]
    exact (rows_13 _).boxesK gunbox |>.trans (by rw [box_un]; exact Al.refl _)
theorem rE_rD (w : List UInt8) (n r : Nat) (b : St) : Al (rE w n r (rD w n r b)) b := by
  unfold rD rE
  split
  · rw [un_box]
    exact ((((rows_31 _).colsK mE).trans (cols_DE _)).withK w r).trans (by rw [with_with]; exact Al.refl _)
  · rw [un_box]
    exact ((rows_31 _).withK w r).trans (by rw [with_with]; exact Al.refl _)
theorem encGo_snoc (w : List UInt8) (n m : Nat) : ∀ r b, encGo w n (m + 1) r b = rE w n (r + m) (encGo w n m r b) := by
  induction m with
  | zero => intro r b; rfl
  | succ m ih =>
    intro r b
    have e : encGo w n (m + 1 + 1) r b = encGo w n (m + 1) (r + 1) (rE w n r b) := rfl
    have e2 : encGo w n (m + 1) r b = encGo w n m (r + 1) (rE w n r b) := rfl
    rw [e, ih, e2]
    congr 1; omega
theorem decGo_al (w : List UInt8) (n m : Nat) : ∀ F G, Al F G → Al (decGo w n m F) (decGo w n m G) := by
  induction m with
  | zero => intro F G h; exact h
  | succ m ih => intro F G h; exact ih _ _ (h.rD w n (m + 1))
theorem dec_enc_go (w : List UInt8) (n m : Nat) : ∀ b, Al (decGo w n m (encGo w n m 1 b)) b := by
  induction m with
  | zero => intro b; exact Al.refl _
  | succ m ih =>
    intro b
    rw [encGo_snoc, Nat.add_comm 1 m]
    exact (decGo_al w n m _ _ (rD_rE w n (m + 1) _)).trans (ih b)
theorem enc_dec_go (w : List UInt8) (n m : Nat) : ∀ b, Al (encGo w n m 1 (decGo w n m b)) b := by
  induction m with
  | zero => intro b; exact Al.refl _
  | succ m ih =>
    intro b
    rw [encGo_snoc, Nat.add_comm 1 m]
    exact ((ih (rD w n (m + 1) b)).rE w n (m + 1)).trans (rE_rD w n (m + 1) b)
theorem encGo_al (w : List UInt8) (n m : Nat) : ∀ r F G, Al F G → Al (encGo w n m r F) (encGo w n m r G) := by
  induction m with
  | zero => intro r F G h; exact h
  | succ m ih => intro r F G h; exact ih _ _ _ (h.rE w n r)
theorem decK_encK (key : List UInt8) (F : St) : Al (decK key (encK key F)) F := by
  unfold decK encK
  exact ((dec_enc_go _ _ _ _).withK _ _).trans (by rw [with_with]; exact Al.refl _)
theorem encK_decK (key : List UInt8) (F : St) : Al (encK key (decK key F)) F := by
  unfold decK encK
  rw [with_with]
  exact enc_dec_go _ _ _ _
/-- on lists -/
def stOf (x : List UInt8) : St := fun i => x.getD i 0
def aesL (key x : List UInt8) (back : Bool) : List UInt8 := tab 16 (if back then decK key (stOf x) else encK key (stOf x))
theorem aesL_length (key x : List UInt8) (back : Bool) : (aesL key x back).length = 16 := tab_length _ _
theorem stOf_tab (F : St) : Al (stOf (tab 16 F)) F := fun i hi => by
  unfold stOf
  rw [List.getD_eq_getElem?_getD, tab_get _ _ _ hi]; rfl
theorem decK_al (key : List UInt8) {F G : St} (h : Al F G) : Al (decK key F) (decK key G) := (decGo_al _ _ _ _ _ h).withK _ _
theorem encK_al (key : List UInt8) {F G : St} (h : Al F G) : Al (encK key F) (encK key G) := encGo_al _ _ _ _ _ _ (h.withK _ _)
theorem aesL_back (key x : List UInt8) (back : Bool) (hx : x.length = 16) : aesL key (aesL key x back) (!back) = x := by
  rw [show x = tab 16 (stOf x) from tab_of x 16 hx]
  cases back
  · exact ((decK_al key (stOf_tab _)).trans ((decK_encK key _).trans (stOf_tab _))).tab
  · exact ((encK_al key (stOf_tab _)).trans ((encK_decK key _).trans (stOf_tab _))).tab
end Lb
