/- law05: BlockRows -/
import Derived.Test.YtbmhmohpnhckgaaDoorStep2
namespace Go.Proofs.YtbmhmohpnhckgaaDoor
open Go.RowKit Lb
/-- a slice of arrays of sixteen bytes, its block below B -/
def RdL (B : Nat) (w : World) (L : Option Addr) (ls : List (List UInt8)) : Prop :=
  (∀ x ∈ ls, x.length = 16) ∧ (0 < ls.length → ∃ b o, L = some ⟨b, o, none⟩ ∧ b < B ∧ ∀ i x, ls[i]? = some x → Rd w (some ⟨b, o + i * 16, none⟩) x)
theorem Rd.below_at {B : Nat} {w w' : World} {A : Option Addr} {l : List UInt8} (h : Rd w A l) (hb : Below B w w') (hA : ∀ ad, A = some ad → ad.block < B) : Rd w' A l := fun hn => by
  obtain ⟨ad, e, hlt, hs', hc⟩ := h hn
  have h1 := hA ad e
  exact ⟨ad, e, by have := hb.size; omega, hs', fun j x hx => (World.cell?_of_block (w := w) (by rw [block_of_add]; exact hb.block _ h1)).trans (hc j x hx)⟩
theorem RdL.below {B : Nat} {w w' : World} {L : Option Addr} {ls : List (List UInt8)} (h : RdL B w L ls) (hb : Below B w w') : RdL B w' L ls := by
  refine ⟨h.1, fun hn => ?_⟩
  obtain ⟨b, o, e, hlt, hc⟩ := h.2 hn
  exact ⟨b, o, e, hlt, fun i x hx => (hc i x hx).below_at hb (fun ad e => by injection e with e; subst e; exact hlt)⟩
theorem draw_le (rows : List BRow) (key : List UInt8) (back : Bool) : ∀ (n : Nat) (t : List UInt8), t.length ≤ n → (drawP rows key back t).2.length ≤ t.length ∧ ((drawP rows key back t).1 ≠ none → (drawP rows key back t).2.length + 16 ≤ t.length) := by
  intro n
  induction n with
  | zero =>
    intro t ht
    rw [drawP, dif_pos (by omega)]
    exact ⟨Nat.le_refl _, fun h => absurd rfl h⟩
  | succ n ih =>
    intro t ht
    rw [drawP]
    by_cases hl : t.length < 16
    · rw [dif_pos hl]; exact ⟨Nat.le_refl _, fun h => absurd rfl h⟩
    · rw [dif_neg hl]
      split
      · have := ih (t.drop 16) (by rw [List.length_drop]; omega)
        rw [List.length_drop] at this
        exact ⟨by omega, fun h => by have := this.2 h; omega⟩
      · simp only [List.length_drop]
        exact ⟨by omega, fun _ => by omega⟩
/-- what a question does to the rows and the tape -/
theorem ask_cases (rows : List BRow) (tape key x : List UInt8) (back : Bool) : ∃ rows2 t2, (∃ o, askP rows tape key x back = (o, rows2, t2)) ∧ t2.length ≤ tape.length ∧ (rows2.length = rows.length ∨ rows2.length = rows.length + 1 ∧ t2.length + 16 ≤ tape.length ∧ (askP rows tape key x back).1 ≠ none) := by
  unfold askP
  split
  · exact ⟨rows, tape, ⟨_, rfl⟩, Nat.le_refl _, .inl rfl⟩
  · have h := draw_le rows key back tape.length tape (Nat.le_refl _)
    split
    · rename_i y t hd
      rw [hd] at h
      exact ⟨_, t, ⟨_, rfl⟩, h.1, .inr ⟨by simp, h.2 (by simp), by simp⟩⟩
    · rename_i t hd
      rw [hd] at h
      exact ⟨rows, t, ⟨_, rfl⟩, h.1, .inl rfl⟩
theorem rows_m {b0 : Nat} {F : Nat → Prop} {p : Nat} {rows : List BRow} {tape : List UInt8} (m : Nat) (hm : rows.length = m) (w : World) (h : Rdy b0 w F p rows tape) :
    Calls Tryd.prog 19 #[.pointer (some ⟨p, 0, none⟩)] w fun e w' => e = .returned (.int .i64 (m : Int)) ∧ w' = w := by
  subst hm
  exact rows_any w h.book
set_option maxRecDepth 100000 in
set_option maxHeartbeats 8000000 in
theorem blockrows_any (A : Option Addr) (n c : Nat) (key : List UInt8) (D : Option Addr) (nd cd : Nat) (draws : List UInt8) (L : Option Addr) (nl cl : Nat) (ls : List (List UInt8)) (w : World)
    (hn : n = key.length) (hr : Rd w A key) (hnd : nd = draws.length) (hrd : Rd w D draws) (hnl : nl = ls.length) (hrl : RdL w.heap.size w L ls) (hvar : ErrVar w) :
    Calls Tryd.prog 8 #[.slice A n c, .slice D nd cd, .slice L nl cl] w fun e w' => e = .returned (.bool true) ∧ Below w.heap.size w w' := by
  have HN := Lib.hid hn
  have HND := Lib.hid hnd
  have HNL := Lib.hid hnl
  have hw0 := hvar.lt
  obtain ⟨b0, hb0⟩ : ∃ b0, b0 + 1 = w.heap.size := ⟨w.heap.size - 1, by omega⟩
  have HB0 := Lib.hid hb0
  obtain ⟨k3, hk3⟩ : ∃ ky, ky = rightL 3 key := ⟨_, rfl⟩
  obtain ⟨k1, hk1⟩ : ∃ ky, ky = rightL 1 key := ⟨_, rfl⟩
  have hok3 : KeyOk 3 k3 := by rw [hk3]; exact right_ok 3 key (.inr (.inr rfl))
  have hok1 : KeyOk 1 k1 := by rw [hk1]; exact right_ok 1 key (.inl rfl)
  have HK3 := Lib.hid hk3
  have HK1 := Lib.hid hk1
  clear hn hnd hnl hb0 hk3 hk1
  by_cases hl : n ≤ 100
  · by_cases hd : nd ≤ 2000
    · by_cases hl30 : nl ≤ 30
      · go_enter Tryd.func8, Tryd.ntmps8
        go_wp2_with fail
        refine (awake_any _ hvar).mono ?_
        rintro e w1 ⟨rfl, hB1⟩
        have hr1 := hr.below hB1
        have hrd1 := hrd.below hB1
        have hrl1 := hrl.below hB1
        have hW1 : Below w.heap.size w w1 := hB1
        have hs1 := hB1.size
        clear hr hrd hrl hvar hB1
        go_wp2_with fail
        refine (book_rdy b0 D nd cd draws w1 HND.out hrd1 (by have := HND.out; omega) (by have := HB0.out; omega)).mono ?_
        rintro e w2 ⟨pb, F, rfl, hrdy2, _, hB2⟩
        have hr2 := hr1.below hB2
        have hrl2 := hrl1.below (hB2.mono hs1)
        have hW2 := below_step hW1 hB2 hW1.size
        clear hr1 hrd1 hrl1 hW1 hB2 hs1
        go_wp2_with fail
        refine (right_any 3 (.inr (.inr rfl)) A n c key HN.out _ hr2 (by omega)).mono ?_
        rintro e w3 ⟨A3, c3, rfl, hown, hB3⟩
        rw [← HK3.out] at hown
        have hrk := hown.rd
        have hrdy3 := hrdy2.below hB3
        have hr3 := hr2.below hB3
        have hrl3 := hrl2.below (hB3.mono hW2.size)
        have hW3 := below_step hW2 hB3 hW2.size
        clear hr2 hrl2 hW2 hB3 hrdy2 hown
        go_wp2_with fail
        refine (new_right 3 (.inr (.inr rfl)) key k3 HK3.out A3 c3 w3 hrdy3 hrk).mono ?_
        rintro e w4 ⟨p3, rfl, hcip4, hB4⟩
        have hrdy4 := hrdy3.below hB4
        have hr4 := hr3.below hB4
        have hrl4 := hrl3.below (hB4.mono hW3.size)
        have hW4 := below_step hW3 hB4 hW3.size
        clear hr3 hrl3 hW3 hB4 hrdy3 hrk
        go_wp2_with fail
        refine (right_any 1 (.inl rfl) A n c key HN.out _ hr4 (by omega)).mono ?_
        rintro e w5 ⟨A5, c5, rfl, hown, hB5⟩
        rw [← HK1.out] at hown
        have hrk := hown.rd
        have hrdy5 := hrdy4.below hB5
        have hcip5 := hcip4.below hB5 hok3.pos
        have hrl5 := hrl4.below (hB5.mono hW4.size)
        have hW5 := below_step hW4 hB5 hW4.size
        clear hr4 hrl4 hW4 hB5 hrdy4 hown hcip4
        go_wp2_with fail
        refine (new_right 1 (.inl rfl) key k1 HK1.out A5 c5 w5 hrdy5 hrk).mono ?_
        rintro e w6 ⟨p1, rfl, hcipd6, hB6⟩
        have hrdy6 := hrdy5.below hB6
        have hcip6 := hcip5.below hB6 hok3.pos
        have hrl6 := hrl5.below (hB6.mono hW5.size)
        have hW6 := below_step hW5 hB6 hW5.size
        clear hrl5 hW5 hB6 hrdy5 hcip5 hrk
        go_wp2_with fail
        go_loopg [13, 14] nl (fun gq s13 s14 wr => ∃ (i r : Nat) (rows : List BRow) (t : List UInt8) (F : Nat → Prop), i ≤ nl ∧ gq = nl - i ∧ s13 = .int .i64 (r : Int) ∧ s14 = .int .i64 (i : Int) ∧ Hid (rows.length = r) ∧ Rdy b0 wr F pb rows t ∧ Cip wr F p3 3 k3 (some ⟨pb, 0, none⟩) ∧ Cip wr F p1 1 k1 (some ⟨pb, 0, none⟩) ∧ Below w.heap.size w wr ∧ RdL w.heap.size wr L ls ∧ r ≤ i ∧ r * 16 + t.length ≤ nd)
        case atStart => exact ⟨0, 0, [], draws, F, by omega, by omega, rfl, rfl, rfl, hrdy6, hcip6, hcipd6, hW6, hrl6, by omega, by have := HND.out; omega⟩
        case round =>
          clear hrdy6 hcip6 hcipd6 hW6 hrl6
          obtain ⟨i, r, rows, t, F, hi, hgk, rfl, rfl, hrr, hrdy, hcip, hcipd, hW, hRL, hri, hrt⟩ := hrel
          have HG := Lib.hid hgk
          clear hgk
          by_cases hlt : i < nl
          · obtain ⟨b, o, rfl, hbw, hcl⟩ := hRL.2 (by have := HNL.out; omega)
            obtain ⟨x, hx⟩ : ∃ x, ls[i]? = some x := ⟨_, List.getElem?_eq_getElem (by rw [← HNL.out]; exact hlt)⟩
            have hxl : Hid (x.length = 16) := hRL.1 x (List.mem_of_getElem? hx)
            have hrx := hcl i x hx
            clear hcl
            go_wp2_with fail
            refine (rows_m r hrr.out wr hrdy).mono ?_
            rintro e w' ⟨rfl, hw'⟩
            obtain rfl := hw'.symm
            go_wp2_with fail
            refine (do_step 1 16 rfl wr hrdy hcipd (some ⟨b, o + i * 16, none⟩) 16 x hxl.out hrx hok1 false (by have := hrr.out; omega) (by omega)).mono ?_
            rintro e w7 ⟨F7, hF7, hrdy7, hcipd7, hfr7, hB7, _, hcase⟩
            rw [show doP 1 rows t k1 x false = (some (aesL k1 x false), rows, t) from rfl] at hrdy7
            have hcip7 := hcip.fr hfr7 (fun i h => .inl h) hF7 hok3.pos
            have hB7' : Below w.heap.size wr w7 := by rw [← HB0.out]; exact hB7
            have hRL7 := hRL.below hB7'
            have hW7 := hW.trans hB7'
            have hrx7 := hrx.below_at hB7' (fun ad e => by injection e with e; subst e; exact hbw)
            rcases hcase with ⟨y, g, ty, _, _, rfl, _, _, _⟩ | ⟨_, h13, _⟩
            rotate_left
            · exact absurd h13 (by decide)
            clear hrdy hcip hcipd hfr7 hB7 hB7' hRL hW hrx hF7
            go_wp2_with fail
            refine (rows_m r hrr.out w7 hrdy7).mono ?_
            rintro e w' ⟨rfl, hw'⟩
            obtain rfl := hw'.symm
            go_wp2_with fail
            refine (do_step 3 16 rfl w7 hrdy7 hcip7 (some ⟨b, o + i * 16, none⟩) 16 x hxl.out hrx7 hok3 false (by have := hrr.out; omega) (by omega)).mono ?_
            rintro e w8 ⟨F8, hF8, hrdy8, hcip8, hfr8, hB8, _, hcase⟩
            have hcipd8 := hcipd7.fr hfr8 (fun i h => .inl h) hF8 hok1.pos
            have hB8' : Below w.heap.size w7 w8 := by rw [← HB0.out]; exact hB8
            have hRL8 := hRL7.below hB8'
            have hW8 := hW7.trans hB8'
            obtain ⟨rows2, t2, ⟨oo, hoo⟩, ht2, hr2⟩ := ask_cases rows t k3 x false
            have hdo : doP 3 rows t k3 x false = (oo, rows2, t2) := hoo
            rw [hoo] at hr2
            rw [hdo] at hcase hrdy8
            have hrr2 := hrr.out
            clear hrdy7 hcip7 hcipd7 hfr8 hB8 hB8' hRL7 hW7 hrx7 hF8 hoo hdo
            rcases hcase with ⟨y, g, ty, _, _, rfl, _, _, _⟩ | ⟨hno, _, T, u, rfl, _⟩
            · rcases hr2 with h | ⟨h, hlen, _⟩
              · have hm : Hid (rows2.length = r) := by show _ = _; omega
                clear h hrr2
                go_wp2_with fail
                refine (rows_m r hm.out w8 hrdy8).mono ?_
                rintro e w' ⟨rfl, hw'⟩
                obtain rfl := hw'.symm
                go_wp2_with fail
                refine (rows_m r hm.out w8 hrdy8).mono ?_
                rintro e w' ⟨rfl, hw'⟩
                obtain rfl := hw'.symm
                go_wp2_with fail
                go_roundg (nl - (i + 1))
                case measure => have := HG.out; omega
                case rel => exact ⟨i + 1, r, rows2, t2, F8, by omega, rfl, rfl, by go_num, hm, hrdy8, hcip8, hcipd8, hW8, hRL8, by omega, by omega⟩
              · have hm : Hid (rows2.length = r + 1) := by show _ = _; omega
                clear h hrr2
                go_wp2_with fail
                refine (rows_m (r + 1) hm.out w8 hrdy8).mono ?_
                rintro e w' ⟨rfl, hw'⟩
                obtain rfl := hw'.symm
                go_wp2_with fail
                refine (rows_m (r + 1) hm.out w8 hrdy8).mono ?_
                rintro e w' ⟨rfl, hw'⟩
                obtain rfl := hw'.symm
                go_wp2_with fail
                go_roundg (nl - (i + 1))
                case measure => have := HG.out; omega
                case rel => exact ⟨i + 1, r + 1, rows2, t2, F8, by omega, rfl, by go_num, by go_num, hm, hrdy8, hcip8, hcipd8, hW8, hRL8, by omega, by omega⟩
            · rcases hr2 with h | ⟨_, _, h⟩
              · have hm : Hid (rows2.length = r) := by show _ = _; omega
                clear h hrr2 hno
                go_wp2_with fail
                refine (rows_m r hm.out w8 hrdy8).mono ?_
                rintro e w' ⟨rfl, hw'⟩
                obtain rfl := hw'.symm
                go_wp2_with fail
                go_roundg (nl - (i + 1))
                case measure => have := HG.out; omega
                case rel => exact ⟨i + 1, r, rows2, t2, F8, by omega, rfl, rfl, by go_num, hm, hrdy8, hcip8, hcipd8, hW8, hRL8, by omega, by omega⟩
              · exact absurd hno h
          · obtain rfl : i = nl := by omega
            have hq : r ≤ nd / 16 := by omega
            go_wp2_with fail
            go_ret
            exact ⟨congrArg (fun b => Ending.returned (.bool b)) (decide_eq_true (show (r : Int) ≤ (nd : Int) / 16 by omega)), hW⟩
      · go_enter Tryd.func8, Tryd.ntmps8
        go_wp2_with fail
        refine (awake_any _ hvar).mono ?_
        rintro e w1 ⟨rfl, hB1⟩
        have hvar1 := hvar.below hB1
        go_wp2_with fail
        refine (awake_any _ hvar1).mono ?_
        rintro e w2 ⟨rfl, hB2⟩
        have hW2 := below_step hB1 hB2 hB1.size
        go_wp2_with fail
        go_ret
        exact ⟨rfl, hW2⟩
    · go_enter Tryd.func8, Tryd.ntmps8
      go_wp2_with fail
      refine (awake_any _ hvar).mono ?_
      rintro e w1 ⟨rfl, hB1⟩
      have hvar1 := hvar.below hB1
      go_wp2_with fail
      refine (awake_any _ hvar1).mono ?_
      rintro e w2 ⟨rfl, hB2⟩
      have hW2 := below_step hB1 hB2 hB1.size
      go_wp2_with fail
      go_ret
      exact ⟨rfl, hW2⟩
  · go_enter Tryd.func8, Tryd.ntmps8
    go_wp2_with fail
    refine (awake_any _ hvar).mono ?_
    rintro e w1 ⟨rfl, hB1⟩
    have hvar1 := hvar.below hB1
    go_wp2_with fail
    refine (awake_any _ hvar1).mono ?_
    rintro e w2 ⟨rfl, hB2⟩
    have hW2 := below_step hB1 hB2 hB1.size
    go_wp2_with fail
    go_ret
    exact ⟨rfl, hW2⟩
end Go.Proofs.YtbmhmohpnhckgaaDoor
