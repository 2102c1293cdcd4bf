import Derived.Test.YtbmhmohpnhckgaaDoorGfPlain
/- plain laws of the field: products are linear on both sides; the reference's product is the program's; inverses -/
namespace Lb
def sel (c : Bool) (x : Nat) : Nat := if c = true then x else 0
theorem sel_xor (c : Bool) (x y : Nat) : sel c (x ^^^ y) = sel c x ^^^ sel c y := by cases c <;> simp [sel]
theorem xor_sel (c d : Bool) (x : Nat) : sel (c ^^ d) x = sel c x ^^^ sel d x := by cases c <;> cases d <;> simp [sel]
def xtN (a : Nat) : Nat := (a * 2 % 256) ^^^ sel (a.testBit 7) 27
theorem mul2_xor (a b : Nat) : (a ^^^ b) * 2 = (a * 2) ^^^ (b * 2) := by
  have := Nat.shiftLeft_xor_distrib (a := a) (b := b) (i := 1)
  simpa [Nat.shiftLeft_eq] using this
theorem mod256_xor (a b : Nat) : (a ^^^ b) % 256 = (a % 256) ^^^ (b % 256) := Nat.xor_mod_two_pow (n := 8)
theorem xor4 (a b c d : Nat) : (a ^^^ b) ^^^ (c ^^^ d) = (a ^^^ c) ^^^ (b ^^^ d) := by
  rw [Nat.xor_assoc, Nat.xor_assoc, ← Nat.xor_assoc b c d, Nat.xor_comm b c, Nat.xor_assoc c b d]
theorem xtN_xor (a b : Nat) : xtN (a ^^^ b) = xtN a ^^^ xtN b := by
  unfold xtN
  rw [mul2_xor, mod256_xor, Nat.testBit_xor, xor_sel, xor4]
/-- the product: one term for each bit of the second -/
def mulT : Nat → Nat → Nat → Nat
  | 0, _, _ => 0
  | n+1, a, b => sel (b.testBit 0) a ^^^ mulT n (xtN a) (b / 2)
def mulN (a b : Nat) : Nat := mulT 8 a b
theorem div2_xor (a b : Nat) : (a ^^^ b) / 2 = (a / 2) ^^^ (b / 2) := by
  have := Nat.shiftRight_xor_distrib (a := a) (b := b) (i := 1)
  simpa [Nat.shiftRight_eq_div_pow] using this
theorem mulT_left (n : Nat) : ∀ a b c, mulT n (a ^^^ b) c = mulT n a c ^^^ mulT n b c := by
  induction n with
  | zero => intro a b c; simp [mulT]
  | succ n ih => intro a b c; simp only [mulT]; rw [xtN_xor, ih, sel_xor, xor4]
theorem mulT_right (n : Nat) : ∀ a b c, mulT n a (b ^^^ c) = mulT n a b ^^^ mulT n a c := by
  induction n with
  | zero => intro a b c; simp [mulT]
  | succ n ih => intro a b c; simp only [mulT]; rw [div2_xor, ih, Nat.testBit_xor, xor_sel, xor4]
/-- linear functions that agree at the powers of two agree -/
theorem bits8 (x : Nat) (hx : x < 256) : x = sel (x.testBit 0) 1 ^^^ sel (x.testBit 1) 2 ^^^ sel (x.testBit 2) 4 ^^^ sel (x.testBit 3) 8 ^^^ sel (x.testBit 4) 16 ^^^ sel (x.testBit 5) 32 ^^^ sel (x.testBit 6) 64 ^^^ sel (x.testBit 7) 128 := by
  have h : ∀ n : Fin 256, n.val = sel (n.val.testBit 0) 1 ^^^ sel (n.val.testBit 1) 2 ^^^ sel (n.val.testBit 2) 4 ^^^ sel (n.val.testBit 3) 8 ^^^ sel (n.val.testBit 4) 16 ^^^ sel (n.val.testBit 5) 32 ^^^ sel (n.val.testBit 6) 64 ^^^ sel (n.val.testBit 7) 128 := by
    decide +kernel
  exact h ⟨x, hx⟩
def Lin (f : Nat → Nat) : Prop := ∀ a b, f (a ^^^ b) = f a ^^^ f b
theorem Lin.zero {f : Nat → Nat} (h : Lin f) : f 0 = 0 := by
  have := h 0 0
  rw [Nat.xor_self, Nat.xor_self] at this
  exact this
theorem Lin.sel {f : Nat → Nat} (h : Lin f) (c : Bool) (x : Nat) : f (sel c x) = Lb.sel c (f x) := by
  cases c
  · exact h.zero
  · rfl
theorem Lin.ext {f g : Nat → Nat} (hf : Lin f) (hg : Lin g) (h0 : f 1 = g 1) (h1 : f 2 = g 2) (h2 : f 4 = g 4) (h3 : f 8 = g 8) (h4 : f 16 = g 16) (h5 : f 32 = g 32) (h6 : f 64 = g 64) (h7 : f 128 = g 128)
    (x : Nat) (hx : x < 256) : f x = g x := by
  rw [bits8 x hx]
  simp only [hf _ _, hg _ _, hf.sel, hg.sel, h0, h1, h2, h3, h4, h5, h6, h7]
theorem mulN_linL (b : Nat) : Lin (fun a => mulN a b) := fun x y => mulT_left 8 x y b
theorem mulN_linR (a : Nat) : Lin (fun b => mulN a b) := fun x y => mulT_right 8 a x y
theorem Lin.comp {f g : Nat → Nat} (hf : Lin f) (hg : Lin g) : Lin (fun x => f (g x)) := fun a b => by
  show f (g (a ^^^ b)) = _
  rw [hg, hf]
/-- two bilinear functions that agree at the powers of two agree -/
def pows : List Nat := [1, 2, 4, 8, 16, 32, 64, 128]
theorem bi_ext {f g : Nat → Nat → Nat} (fl : ∀ b, Lin (fun a => f a b)) (fr : ∀ a, Lin (f a)) (gl : ∀ b, Lin (fun a => g a b)) (gr : ∀ a, Lin (g a))
    (h : pows.all (fun a => pows.all (fun b => f a b == g a b)) = true) (x y : Nat) (hx : x < 256) (hy : y < 256) : f x y = g x y := by
  have H : ∀ a ∈ pows, ∀ b ∈ pows, f a b = g a b := by
    intro a ha b hb
    have := List.all_eq_true.1 (List.all_eq_true.1 h a ha) b hb
    simpa using this
  have H2 : ∀ b ∈ pows, ∀ x, x < 256 → f x b = g x b := by
    intro b hb x hx
    refine Lin.ext (fl b) (gl b) ?_ ?_ ?_ ?_ ?_ ?_ ?_ ?_ x hx <;> exact H _ (by decide) b hb
  refine Lin.ext (fr x) (gr x) ?_ ?_ ?_ ?_ ?_ ?_ ?_ ?_ y hy <;> exact H2 _ (by decide) x hx
theorem mulN_comm (x y : Nat) (hx : x < 256) (hy : y < 256) : mulN x y = mulN y x :=
  bi_ext (f := mulN) (g := fun a b => mulN b a) mulN_linL mulN_linR (fun b => mulN_linR b) (fun a => mulN_linL a) (by decide +kernel) x y hx hy
theorem mulN_assoc (x y z : Nat) (hx : x < 256) (hy : y < 256) (hz : z < 256) : mulN (mulN x y) z = mulN x (mulN y z) := by
  have H : ∀ z ∈ pows, mulN (mulN x y) z = mulN x (mulN y z) := by
    intro z hz
    refine bi_ext (f := fun x y => mulN (mulN x y) z) (g := fun x y => mulN x (mulN y z)) (fun b => (mulN_linL z).comp (mulN_linL b)) (fun a => (mulN_linL z).comp (mulN_linR a))
      (fun b => mulN_linL _) (fun a => (mulN_linR a).comp (mulN_linL z)) ?_ x y hx hy
    have hh : pows.all (fun z => pows.all (fun a => pows.all (fun b => mulN (mulN a b) z == mulN a (mulN b z)))) = true := by decide +kernel
    exact List.all_eq_true.1 hh z hz
  refine Lin.ext (mulN_linR (mulN x y)) ((mulN_linR x).comp (mulN_linR y)) ?_ ?_ ?_ ?_ ?_ ?_ ?_ ?_ z hz <;> exact H _ (by decide)

theorem xt_toNat (a : UInt8) : (xt a).toNat = xtN a.toNat := by
  have h : ∀ n : Fin 256, (xt (UInt8.ofNat n.val)).toNat = xtN n.val := by decide +kernel
  have := h ⟨a.toNat, a.toNat_lt⟩
  simpa using this
theorem bit0 (q : UInt8) : (q &&& 1 = 1) ↔ q.toNat.testBit 0 = true := by
  have h : ∀ n : Fin 256, (UInt8.ofNat n.val &&& 1 = 1) ↔ n.val.testBit 0 = true := by decide +kernel
  have := h ⟨q.toNat, q.toNat_lt⟩
  simpa using this
theorem shr1_toNat (q : UInt8) : (q >>> 1).toNat = q.toNat / 2 := by
  rw [UInt8.toNat_shiftRight]; simp [Nat.shiftRight_eq_div_pow]
theorem mulGo_toNat (n : Nat) : ∀ p q o : UInt8, (mulGo n p q o).toNat = o.toNat ^^^ mulT n p.toNat q.toNat := by
  induction n with
  | zero => intro p q o; simp [mulGo, mulT]
  | succ n ih =>
    intro p q o
    simp only [mulGo, mulT]
    rw [ih, xt_toNat, shr1_toNat, ← Nat.xor_assoc]
    congr 1
    by_cases c : q &&& 1 = 1
    · rw [if_pos c, (bit0 q).1 c, UInt8.toNat_xor]; rfl
    · have c2 : q.toNat.testBit 0 = false := by
        cases h : q.toNat.testBit 0
        · rfl
        · exact absurd ((bit0 q).2 h) c
      rw [if_neg c, c2]; simp [sel]
theorem gmul_toNat (x y : UInt8) : (gmul x y).toNat = mulN x.toNat y.toNat := by
  unfold gmul mulN
  rw [mulGo_toNat]; simp
/-- the reference -/
theorem rIn_xor (a b i n : Nat) : ∀ p q, rIn a b i n (p ^^^ q) = rIn a b i n p ^^^ q := by
  induction n with
  | zero => intro p q; rfl
  | succ n ih =>
    intro p q
    simp only [rIn]
    split
    · rw [← ih]; congr 1; rw [Nat.xor_assoc, Nat.xor_comm q, ← Nat.xor_assoc]
    · exact ih p q
theorem rIn_0 (a b i n p : Nat) : rIn a b i n p = rIn a b i n 0 ^^^ p := by
  have := rIn_xor a b i n 0 p
  rwa [Nat.zero_xor] at this
theorem rIn_sel (a b i n : Nat) : rIn a b i (n + 1) 0 = rIn a b i n 0 ^^^ sel (a.testBit i && b.testBit (7 - n)) (2 ^ (i + (7 - n))) := by
  simp only [rIn]
  rw [rIn_0]
  congr 1
  cases h : (a.testBit i && b.testBit (7 - n)) <;> simp [sel]
theorem and_xorL (a b c : Bool) : ((a ^^ b) && c) = ((a && c) ^^ (b && c)) := by cases a <;> cases b <;> cases c <;> rfl
theorem and_xorR (a b c : Bool) : (a && (b ^^ c)) = ((a && b) ^^ (a && c)) := by cases a <;> cases b <;> cases c <;> rfl
theorem rIn_linL (b i n : Nat) : Lin (fun a => rIn a b i n 0) := by
  induction n with
  | zero => intro x y; simp [rIn]
  | succ n ih => intro x y; simp only [rIn_sel]; rw [show rIn (x ^^^ y) b i n 0 = rIn x b i n 0 ^^^ rIn y b i n 0 from ih x y, Nat.testBit_xor, and_xorL, xor_sel, xor4]
theorem rIn_linR (a i n : Nat) : Lin (fun b => rIn a b i n 0) := by
  induction n with
  | zero => intro x y; simp [rIn]
  | succ n ih => intro x y; simp only [rIn_sel]; rw [show rIn a (x ^^^ y) i n 0 = rIn a x i n 0 ^^^ rIn a y i n 0 from ih x y, Nat.testBit_xor, and_xorR, xor_sel, xor4]
theorem rOut_xor (a b n : Nat) : ∀ p q, rOut a b n (p ^^^ q) = rOut a b n p ^^^ q := by
  induction n with
  | zero => intro p q; rfl
  | succ n ih => intro p q; simp only [rOut]; rw [rIn_xor, ih]
theorem rOut_0 (a b n p : Nat) : rOut a b n p = rOut a b n 0 ^^^ p := by
  have := rOut_xor a b n 0 p
  rwa [Nat.zero_xor] at this
theorem rOut_linL (b n : Nat) : Lin (fun a => rOut a b n 0) := by
  induction n with
  | zero => intro x y; simp [rOut]
  | succ n ih =>
    intro x y; simp only [rOut]
    rw [rOut_0, rOut_0 x, rOut_0 y, show rOut (x ^^^ y) b n 0 = rOut x b n 0 ^^^ rOut y b n 0 from ih x y, show rIn (x ^^^ y) b (7 - n) 8 0 = rIn x b (7 - n) 8 0 ^^^ rIn y b (7 - n) 8 0 from rIn_linL b (7 - n) 8 x y, xor4]
theorem rOut_linR (a n : Nat) : Lin (fun b => rOut a b n 0) := by
  induction n with
  | zero => intro x y; simp [rOut]
  | succ n ih =>
    intro x y; simp only [rOut]
    rw [rOut_0, rOut_0 a x, rOut_0 a y, show rOut a (x ^^^ y) n 0 = rOut a x n 0 ^^^ rOut a y n 0 from ih x y, show rIn a (x ^^^ y) (7 - n) 8 0 = rIn a x (7 - n) 8 0 ^^^ rIn a y (7 - n) 8 0 from rIn_linR a (7 - n) 8 x y, xor4]
theorem rRed_lin (n : Nat) : Lin (rRed n) := by
  induction n with
  | zero => intro x y; rfl
  | succ n ih =>
    have e : ∀ p, rRed (n + 1) p = rRed n p ^^^ sel (p.testBit (n + 8)) (rRed n (283 * 2 ^ n)) := by
      intro p
      simp only [rRed]
      cases h : p.testBit (n + 8)
      · simp [sel]
      · rw [if_pos rfl, ih]; rfl
    intro x y
    rw [e, e, e, ih, Nat.testBit_xor, xor_sel, xor4]
def refN (a b : Nat) : Nat := rRed 7 (rOut a b 8 0) % 256
theorem mod_lin : Lin (fun x => x % 256) := fun a b => mod256_xor a b
theorem refN_eq (x y : Nat) (hx : x < 256) (hy : y < 256) : refN x y = mulN x y :=
  bi_ext (f := refN) (g := mulN) (fun b => mod_lin.comp ((rRed_lin 7).comp (rOut_linL b 8))) (fun a => mod_lin.comp ((rRed_lin 7).comp (rOut_linR a 8))) mulN_linL mulN_linR (by decide +kernel) x y hx hy
theorem refMul_eq (x y : UInt8) : refMul x y = gmul x y := by
  apply UInt8.toNat_inj.1
  rw [gmul_toNat, ← refN_eq _ _ x.toNat_lt y.toNat_lt]
  simp [refMul, refN]
theorem gmul_comm (x y : UInt8) : gmul x y = gmul y x := by
  apply UInt8.toNat_inj.1
  rw [gmul_toNat, gmul_toNat, mulN_comm _ _ x.toNat_lt y.toNat_lt]
theorem gmul_assoc (x y z : UInt8) : gmul (gmul x y) z = gmul x (gmul y z) := by
  apply UInt8.toNat_inj.1
  rw [gmul_toNat, gmul_toNat, gmul_toNat, gmul_toNat, mulN_assoc _ _ _ x.toNat_lt y.toNat_lt z.toNat_lt]
theorem gmul_xorR (x y z : UInt8) : gmul x (y ^^^ z) = gmul x y ^^^ gmul x z := by
  apply UInt8.toNat_inj.1
  rw [UInt8.toNat_xor, gmul_toNat, gmul_toNat, gmul_toNat, UInt8.toNat_xor]
  exact mulN_linR _ _ _
theorem gmul_xorL (x y z : UInt8) : gmul (x ^^^ y) z = gmul x z ^^^ gmul y z := by
  rw [gmul_comm, gmul_xorR, gmul_comm z x, gmul_comm z y]
theorem all8 (p : UInt8 → Bool) (h : (List.range 256).all (fun n => p (UInt8.ofNat n)) = true) (a : UInt8) : p a = true := by
  have := List.all_eq_true.1 h a.toNat (by simp; exact a.toNat_lt)
  simpa using this
theorem gmul_1 (x : UInt8) : gmul 1 x = x := by
  have := all8 (fun x => gmul 1 x == x) (by decide +kernel) x
  simpa using this
theorem gmul_0 (x : UInt8) : gmul 0 x = 0 := by
  have := all8 (fun x => gmul 0 x == 0) (by decide +kernel) x
  simpa using this
/-- the inverse -/
def invN : Nat → Nat → Nat → Nat
  | 0, _, out => out
  | n+1, a, out => invN n (mulN a a) (mulN out (mulN a a))
theorem invGo_toNat (n : Nat) : ∀ a o, (invGo n a o).toNat = invN n a.toNat o.toNat := by
  induction n with
  | zero => intro a o; rfl
  | succ n ih => intro a o; simp only [invGo, invN]; rw [ih, gmul_toNat, gmul_toNat, gmul_toNat]
theorem ginv_toNat (x : UInt8) : (ginv x).toNat = invN 7 x.toNat 1 := by
  unfold ginv; rw [invGo_toNat]; rfl
theorem fin8 (p : Nat → Prop) (h : ∀ n : Fin 256, p n.val) (a : UInt8) : p a.toNat := h ⟨a.toNat, a.toNat_lt⟩
theorem gmul_inv (x : UInt8) (h : x ≠ 0) : gmul x (ginv x) = 1 := by
  have := fin8 (fun n => n ≠ 0 → mulN n (invN 7 n 1) = 1) (by decide +kernel) x (fun e => h (UInt8.toNat_inj.1 e))
  apply UInt8.toNat_inj.1
  rw [gmul_toNat, ginv_toNat, this]; rfl
theorem ginv_ne (x : UInt8) (h : x ≠ 0) : ginv x ≠ 0 := by
  intro e
  have := gmul_inv x h
  rw [e, gmul_comm, gmul_0] at this
  exact absurd this (by decide)
theorem ginv_0 : ginv 0 = 0 := by decide +kernel
theorem inv_unique (x i : UInt8) (h : gmul x i = 1) : i = ginv x := by
  have hx : x ≠ 0 := by
    intro e; rw [e, gmul_0] at h; exact absurd h (by decide)
  calc i = gmul 1 i := (gmul_1 i).symm
    _ = gmul (gmul (ginv x) x) i := by rw [gmul_comm (ginv x) x, gmul_inv x hx]
    _ = gmul (ginv x) (gmul x i) := gmul_assoc _ _ _
    _ = gmul 1 (ginv x) := by rw [h, gmul_comm]
    _ = ginv x := gmul_1 _
theorem refInvGo_0 (n : Nat) : refInvGo n 0 = 0 := by
  induction n with
  | zero => rfl
  | succ n ih => simp only [refInvGo]; rw [refMul_eq, gmul_0, if_neg (by decide)]; exact ih
theorem refInvGo_eq (n : Nat) : ∀ x : UInt8, x ≠ 0 → 256 - n ≤ (ginv x).toNat → n ≤ 255 → refInvGo n x = ginv x := by
  induction n with
  | zero => intro x _ h1 _; have := (ginv x).toNat_lt; omega
  | succ n ih =>
    intro x hx h1 h2
    simp only [refInvGo]
    rw [refMul_eq]
    by_cases c : gmul x (UInt8.ofNat (255 - n)) = 1
    · rw [if_pos c]; exact inv_unique _ _ c
    · rw [if_neg c]
      refine ih x hx ?_ (by omega)
      have : (ginv x).toNat ≠ 255 - n := by
        intro e
        apply c
        rw [← e, UInt8.ofNat_toNat]
        exact gmul_inv x hx
      omega
theorem ginv_ref (x : UInt8) : ginv x = refInv x := by
  unfold refInv
  by_cases h : x = 0
  · subst h; rw [refInvGo_0, ginv_0]
  · refine (refInvGo_eq 255 x h ?_ (by decide)).symm
    have := ginv_ne x h
    have h2 : (ginv x).toNat ≠ 0 := fun e => this (UInt8.toNat_inj.1 e)
    omega
def aff (y : UInt8) : UInt8 := y ^^^ rotl y 1 ^^^ rotl y 2 ^^^ rotl y 3 ^^^ rotl y 4 ^^^ 99
theorem aff_ref (y : UInt8) : aff y = refAff y := by
  have := all8 (fun y => aff y == refAff y) (by decide +kernel) y
  simpa using this
theorem gbox_ref (x : UInt8) : gbox x = refAff (refInv x) := by
  rw [← ginv_ref, ← aff_ref]; rfl
theorem w1 : gmul 87 131 = 193 := by decide +kernel
theorem w2 : gbox 0 = 99 := by decide +kernel
theorem w3 : gbox 83 = 237 := by decide +kernel
theorem w4 : gunbox 237 = 83 := by decide +kernel
theorem w5 : ginv 1 = 1 := by decide +kernel
theorem ginv_ginv (x : UInt8) : ginv (ginv x) = x := by
  by_cases h : x = 0
  · subst h; rw [ginv_0, ginv_0]
  · refine (inv_unique (ginv x) x ?_).symm
    rw [gmul_comm]; exact gmul_inv x h
theorem unaff_aff (y : UInt8) : rotl (aff y) 1 ^^^ rotl (aff y) 3 ^^^ rotl (aff y) 6 ^^^ 5 = y := by
  have := all8 (fun y => rotl (aff y) 1 ^^^ rotl (aff y) 3 ^^^ rotl (aff y) 6 ^^^ 5 == y) (by decide +kernel) y
  simpa using this
theorem aff_unaff (y : UInt8) : aff (rotl y 1 ^^^ rotl y 3 ^^^ rotl y 6 ^^^ 5) = y := by
  have := all8 (fun y => aff (rotl y 1 ^^^ rotl y 3 ^^^ rotl y 6 ^^^ 5) == y) (by decide +kernel) y
  simpa using this
theorem unbox_box (x : UInt8) : gunbox (gbox x) = x := by
  show ginv (rotl (aff (ginv x)) 1 ^^^ rotl (aff (ginv x)) 3 ^^^ rotl (aff (ginv x)) 6 ^^^ 5) = x
  rw [unaff_aff, ginv_ginv]
theorem box_unbox (x : UInt8) : gbox (gunbox x) = x := by
  show aff (ginv (ginv (rotl x 1 ^^^ rotl x 3 ^^^ rotl x 6 ^^^ 5))) = x
  rw [ginv_ginv, aff_unaff]
end Lb
