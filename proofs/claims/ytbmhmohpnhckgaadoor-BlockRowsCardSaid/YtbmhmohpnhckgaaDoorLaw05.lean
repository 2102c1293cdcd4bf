/- law05: book, awake, BlockNews -/
import Derived.Test.YtbmhmohpnhckgaaDoorDo2
import Derived.Test.YtbmhmohpnhckgaaDoorNews
namespace Go.Proofs.YtbmhmohpnhckgaaDoor
open Go.RowKit
set_option maxRecDepth 100000 in
set_option maxHeartbeats 1000000 in
theorem book_any (A : Option Addr) (n c : Nat) (l : List UInt8) (w : World) (hn : n = l.length) (hr : Rd w A l) (hlen : l.length ≤ 65536) :
    Calls Tryd.prog 10 #[.slice A n c] w fun e w' => ∃ p, e = .returned (.tuple #[.pointer (some ⟨p, 0, none⟩), .bool true]) ∧ BookIs w' (fun i => w.heap.size ≤ i ∧ i < w'.heap.size) p [] l ∧ Below w.heap.size w w' := by
  subst hn
  go_enter Tryd.func10, Tryd.ntmps10
  go_wp2_with fail
  refine (tapeNew_any A _ c l _ rfl hr hlen).mono ?_
  rintro e w1 ⟨tp, T, cT, rfl, ht, htp, hT, hB⟩
  go_wp2_with (first
    | (go_at_call 21; refine (newBook_any _ _).mono ?_; rintro e w2 ⟨rfl, hw2⟩; obtain rfl := hw2))
  go_ret2
  have hs := hB.size
  have htl := ht.1.lt
  refine ⟨w1.heap.size, rfl, ?_, hB.alloc hs _⟩
  refine ⟨tp, T, cT, none, 0, ⟨hs, by simp⟩, ⟨htp, by simp; omega⟩, by omega, Blk.new _ _ _, ht.below ((Below.refl _ _).alloc (Nat.le_refl _) _), ?_, ⟨by simp, .inl ⟨rfl, rfl⟩⟩, by simp [blkOf], by simp, fun i h => h.2⟩
  intro ad e
  have := hT ad e
  exact ⟨⟨this.1, by simp; omega⟩, by omega, by omega⟩
theorem wpList_make16 (w : World) {ops : Array Oper} {rest : List Oper} {o : Oper} {a : Act} {Q : Exit → Act → World → Prop} (hg : o.guard = none) (l c : Operand) (hop : o.op = Op.makeSlice 22 l c) (hl : a.eval l = .int .i64 16) (hc : a.eval c = .int .i64 16)
    (hK : ∀ w', Own w' w.heap.size (some ⟨w.heap.size, 0, none⟩) 16 zero16 → Below w.heap.size w w' → wpList Tryd.prog ops Q rest (a.put o.dst (.slice (some ⟨w.heap.size, 0, none⟩) 16 16)) w') : wpList Tryd.prog ops Q (o :: rest) a w := by
  obtain ⟨i, hi, hz, hs, hb⟩ := info_parts byteinfo
  refine wpList_make_full w hg l c 22 hop w.heap.size 5 i (.int .u8 0) 1 Tryd.underlying22 hi hz hs .i64 .i64 16 16 16 hl hc rfl rfl (by rw [hb]; decide) (by unfold maxLen; decide) (Nat.le_refl _) ?_
  intro w' h1 h2
  have e : (madeCells (Value.int .u8 0).cells (16 * 1)).toList = zero16.map bv := by kernel_rfl
  rw [e] at h1
  exact hK w' h1 ((Below.refl _ _).grown h2 (Nat.le_refl _) (fun k hk => by cases hk))
def seven16 : List UInt8 := List.replicate 16 7
theorem ask_first : askP [] seven16 [1] zero16 false = (some seven16, [⟨[1], zero16, seven16⟩], []) := by
  have h : drawP [] [1] false seven16 = (some seven16, []) := by rw [drawP]; rfl
  unfold askP
  rw [show List.find? (hitP [1] false zero16) [] = none from rfl, h]
  rfl
theorem ask_second : askP [⟨[1], zero16, seven16⟩] [] [1] seven16 false = (none, [⟨[1], zero16, seven16⟩], []) := by
  have h : drawP [⟨[1], zero16, seven16⟩] [1] false [] = (none, []) := by rw [drawP]; rfl
  unfold askP
  rw [show List.find? (hitP [1] false seven16) [⟨[1], zero16, seven16⟩] = none by decide, h]
set_option maxRecDepth 100000 in
set_option maxHeartbeats 8000000 in
theorem awake_any (w : World) (hvar : ErrVar w) : Calls Tryd.prog 9 #[] w fun e w' => e = .returned (.bool true) ∧ Below w.heap.size w w' := by
  go_enter Tryd.func9, Tryd.ntmps9
  go_wp2_with fail
  go_loopg [1, 2] 16 (fun gq s1 s2 wr => ∃ (k : Nat) (A : Option Addr) (c : Nat), k ≤ 16 ∧ gq = 16 - k ∧ s1 = .slice A k c ∧ s2 = .int .i64 (k : Int) ∧ Own wr w.heap.size A c (List.replicate k 7) ∧ Below w.heap.size w wr)
  case atStart => exact ⟨0, none, 0, by omega, by omega, rfl, rfl, Own.nil _ _, Below.refl _ _⟩
  case round =>
    obtain ⟨k, A, c, hk, hgk, rfl, rfl, hown, hB⟩ := hrel
    have HG := Lib.hid hgk
    clear hgk
    have hlen : Hid ((List.replicate k (7 : UInt8)).length = k) := List.length_replicate
    obtain ⟨L, hL⟩ : ∃ L : List UInt8, L = List.replicate k 7 := ⟨_, rfl⟩
    rw [← hL] at hown hlen
    have HL := Lib.hid hL
    clear hL
    by_cases hlt : k < 16
    · go_wp2_with (first
        | (at_builtin; refine wpList_app rfl _ _ rfl w.heap.size _ _ _ L hlen.out.symm rfl (hown.alloc _) (some ⟨wr.heap.size, 0, none⟩) 1 1 [7] rfl rfl (by exact Rd.of_blk (l := [7]) (Blk.new _ _ _)) (by rw [hlen.out]; simp; omega) (by have := hB.size; simp; omega) ?_; intro A' c' w3 hown' hg' hat'; refine lock_stop ?_))
      have hB2 : Below w.heap.size w w3 := (hB.alloc hB.size _).grown hg' (by have := hB.size; simp; omega) (fun k hk => by
        have h1 := (hown.lt k hk).1
        exact h1)
      have hL2 : Hid (L ++ [7] = List.replicate (k + 1) 7) := by show _ = _; rw [HL.out, List.replicate_succ']
      have hown2 : Own w3 w.heap.size A' c' (List.replicate (k + 1) 7) := by rw [← hL2.out]; exact hown'
      have hlen2 : Hid ((L ++ [7]).length = k + 1) := by show _ = _; rw [List.length_append, hlen.out]; rfl
      have hl2 : L.length = k := hlen.out
      clear hown' hg' hat' hown
      refine lock_go ?_
      go_wp2_with fail
      go_roundg (16 - (k + 1))
      case measure => have := HG.out; omega
      case rel => exact ⟨k + 1, A', c', by omega, rfl, by rw [hl2], by go_num, hown2, hB2⟩
    · obtain rfl : k = 16 := by omega
      rw [HL.out] at hown
      clear hlen HL HG
      obtain ⟨L16, hL16⟩ : ∃ L : List UInt8, L = seven16 := ⟨_, rfl⟩
      rw [show List.replicate 16 (7 : UInt8) = L16 from hL16.symm] at hown
      have H16 := Lib.hid hL16
      have hl16 : Hid (L16.length = 16) := by show _ = _; rw [hL16]; rfl
      clear hL16
      go_wp2_with fail
      refine (book_any A 16 c L16 wr hl16.out.symm hown.rd (by rw [hl16.out]; decide)).mono ?_
      rintro e w1 ⟨pb, rfl, hbk, hB1⟩
      have hAl := fun k hk => (hown.lt k hk).2
      have hown1 := hown.below hB1
      have hvar1 := (hvar.below hB).below hB1
      have hBw1 := below_mid hB hB1 hB.size
      clear hown
      go_wp2_with fail
      have hA1 : Below w1.heap.size w1 (w1.alloc (.cells #[.int .u8 1] 5)) := (Below.refl _ _).alloc (Nat.le_refl _) _
      refine (new_good 3 (some ⟨w1.heap.size, 0, none⟩) 1 1 [1] (some ⟨pb, 0, none⟩) _ rfl (Rd.of_blk (l := [1]) (Blk.new w1 5 (cs [1]))) (by simp) (.inr (.inr ⟨rfl, by simp⟩)) rfl).mono ?_
      rintro e w2 ⟨p, K, cK, rfl, hp, hK, hps, hKs, hcK, hB2⟩
      have hB12 := below_mid hA1 hB2 (by simp)
      have hs12 := hB12.size
      have hcip : Cip w2 (fun i => wr.heap.size ≤ i ∧ i < w1.heap.size) p 3 [1] (some ⟨pb, 0, none⟩) := by
        refine ⟨K, cK, hp, hK, fun h => ?_, fun ad e h => ?_, hcK⟩
        · have : (w1.alloc (.cells (cs [1]) 5)).heap.size = w1.heap.size + 1 := by simp
          omega
        · have h1 := hKs ad e
          have : (w1.alloc (.cells (cs [1]) 5)).heap.size = w1.heap.size + 1 := by simp
          omega
      have hbk2 := hbk.below hB12
      have hown2 := hown1.below hB12
      have hvar2 := hvar1.below hB12
      have hBw2 := below_mid hBw1 hB12 hBw1.size
      have HB12 := Lib.hid hB12
      clear hbk hown1 hvar1 hBw1 hA1 hB2 hB12 hK hKs
      go_wp2_with (first
        | (go_at_call 14; refine (size_any p 3 _ _ _ hp).mono ?_; rintro e w3 ⟨rfl, hw3⟩; obtain rfl := hw3.symm)
        | (at_make; refine wpList_make16 _ rfl _ _ rfl rfl rfl ?_; intro w3 hz3 hB3; refine lock_stop ?_))
      have hs23 := hB3.size
      have hbk3 := hbk2.below hB3
      have hown3 := hown2.below hB3
      have hvar3 := hvar2.below hB3
      have hcip3 := hcip.below hB3 (by decide)
      have hBw3 := below_mid hBw2 hB3 hBw2.size
      clear hbk2 hown2 hvar2 hcip hB3 hp HB12
      refine lock_go ?_
      go_wp2_with fail
      refine (do_oracle w3 hbk3 hcip3 (some ⟨w2.heap.size, 0, none⟩) 16 16 zero16 rfl rfl hz3.rd (by decide) false (by decide) (by rw [hl16.out]; decide)).mono ?_
      rintro e w4 ⟨F4, hF4, hbk4, hfr4, hcase⟩
      rw [H16.out, ask_first] at hbk4 hcase
      rcases hcase with ⟨y, g, hy, hyl, rfl, hgb, hg1, hg2⟩ | ⟨hy, _⟩
      rotate_left
      · cases hy
      obtain rfl : seven16 = y := Option.some.inj hy
      have hown4 := hown3.fr hfr4 (fun k hk h => by have := hAl k hk; omega)
      have hcip4 := hcip3.fr hfr4 (F' := F4) (fun i h => .inl h) hF4 (by decide)
      have hvar4 := hvar3.fr hfr4 (fun h => by have := hvar.lt; have := hB.size; omega)
      have hBw4 : Below w.heap.size w w4 := hBw3.trans (hfr4.below hBw3.size (fun i h => by have := hB.size; omega))
      have hs34 := hfr4.size
      clear hbk3 hown3 hvar3 hcip3 hz3 hfr4 hBw3
      go_wp2_with fail
      rw [H16.out] at hown4
      refine (do_oracle w4 hbk4 hcip4 A 16 c seven16 rfl rfl hown4.rd (by decide) false (by decide) (by decide)).mono ?_
      rintro e w5 ⟨F5, hF5, hbk5, hfr5, hcase⟩
      rw [ask_second] at hbk5 hcase
      rcases hcase with ⟨y, _, hy, _⟩ | ⟨_, v, rfl, hv⟩
      · cases hy
      have hFb4 : ∀ i, F4 i → wr.heap.size ≤ i := fun i h => by
        rcases hF4 i h with h1 | h1
        · exact h1.1
        · have := hBw2.size; have := hB1.size; have := hB.size; omega
      have hown5 := hown4.fr hfr5 (fun k hk h => by have := hAl k hk; have := hFb4 k h; omega)
      have hgb5 := hgb.fr hfr5 hg2
      have hvar5 := hvar4.fr hfr5 (fun h => by have := hvar.lt; have := hB.size; have := hFb4 0 h; omega)
      have hBw5 : Below w.heap.size w w5 := hBw4.trans (hfr5.below hBw4.size (fun i h => by have := hB.size; have := hFb4 i h; omega))
      clear hbk4 hown4 hgb hvar4 hcip4 hfr5 hBw4
      obtain ⟨Tv, uv, rfl⟩ : ∃ T u, v = .iface T u := by cases hv <;> exact ⟨_, _, rfl⟩
      go_wp2_with fail
      refine (new_size 1 (some ⟨w5.heap.size, 0, none⟩) 1 1 none _ (.inl rfl) rfl).mono ?_
      rintro e w6 ⟨rfl, hw6⟩
      have hB6 : Below w5.heap.size w5 w6 := by rw [hw6]; exact (Below.refl _ _).alloc (Nat.le_refl _) _
      clear hw6
      have hbk6 := hbk5.below hB6
      have hown6 := hown5.below hB6
      have hgb6 := hgb5.below hB6 hgb5.lt
      have hvar6 := hvar5.below hB6
      have hv6 := hv.below hB6
      have hBw6 := below_mid hBw5 hB6 hBw5.size
      clear hbk5 hown5 hgb5 hvar5 hv hBw5 hB6
      go_wp2_with fail
      refine (same_any (some ⟨g, 0, none⟩) A 16 16 16 c seven16 seven16 rfl rfl w6 (Rd.of_blk hgb6) hown6.rd (by decide)).mono ?_
      rintro e _ ⟨rfl, q, rfl⟩
      rw [show (seven16 == seven16) = true from by decide]
      go_wp2_with fail
      refine (Code_any (w6.drewN q) (hv6.below (below_drewN (Below.refl _ _) q)) hvar6).mono ?_
      rintro e w7 ⟨rfl, hB7⟩
      have hB7' : Below w6.heap.size w6 w7 := ⟨hB7.os, hB7.tape, hB7.output, hB7.size, hB7.block⟩
      have hbk7 := hbk6.below hB7'
      have hvar7 := hvar6.below hB7'
      have hBw7 := below_mid hBw6 hB7' hBw6.size
      clear hbk6 hvar6 hB7 hB7' hBw6
      go_wp2_with fail
      refine (Code_any w7 (.errno (n := 2)) hvar7).mono ?_
      rintro e w8 ⟨rfl, hB8⟩
      have hbk8 := hbk7.below hB8
      have hBw8 := below_mid hBw7 hB8 hBw7.size
      clear hbk7 hvar7 hB8 hBw7
      go_wp2_with fail
      refine (rows_any w8 hbk8).mono ?_
      rintro e w9 ⟨rfl, hw9⟩
      obtain rfl := hw9.symm
      go_wp2_with fail
      go_ret
      exact ⟨rfl, hBw8⟩
end Go.Proofs.YtbmhmohpnhckgaaDoor
