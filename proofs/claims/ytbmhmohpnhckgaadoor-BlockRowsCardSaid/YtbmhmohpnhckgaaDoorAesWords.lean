import Derived.Test.YtbmhmohpnhckgaaDoorAesWalk
import Derived.Test.YtbmhmohpnhckgaaDoorBytes
import Derived.Test.YtbmhmohpnhckgaaDoorTail
import Derived.Deep.MidRow
import Derived.WalkLawsBesides
import Derived.OwnWalk
import Derived.Maps.AppendAt
import Derived.Deep.DeepCutAuto
import Derived.Deep.CutBlock
import Derived.Deep.LoopGhost
namespace Go.Proofs.YtbmhmohpnhckgaaDoor
open Go.RowKit Lb
theorem beq_int (n m : Nat) : (((n : Int) == (m : Int))) = decide (n = m) := by
  rw [Bool.eq_iff_iff]; simp only [beq_iff_eq, decide_eq_true_eq]; omega
set_option maxRecDepth 100000 in
set_option maxHeartbeats 1000000 in
theorem aesrounds_any (A : Option Addr) (n c : Nat) (w : World) :
    Calls Tryd.prog 59 #[.slice A n c] w fun e w' => e = .returned (.int .i64 (nr n : Nat)) ∧ w = w' := by
  by_cases h1 : n = 32
  · subst h1
    go_enter Tryd.func59, Tryd.ntmps59
    go_wp2
    go_ret
    exact ⟨rfl, rfl⟩
  · by_cases h2 : n = 24
    · subst h2
      go_enter Tryd.func59, Tryd.ntmps59
      go_wp2
      go_ret
      exact ⟨rfl, rfl⟩
    · by_cases h3 : n = 16
      · subst h3
        go_enter Tryd.func59, Tryd.ntmps59
        go_wp2
        go_ret
        exact ⟨rfl, rfl⟩
      · have k1 : ((n : Int) == 32) = false := by rw [beq_eq_false_iff_ne]; omega
        have k2 : ((n : Int) == 24) = false := by rw [beq_eq_false_iff_ne]; omega
        have k3 : ((n : Int) == 16) = false := by rw [beq_eq_false_iff_ne]; omega
        have e : Hid (nr n = 0) := by show _ = _; unfold nr; rw [if_neg h1, if_neg h2, if_neg h3]
        go_enter Tryd.func59, Tryd.ntmps59
        go_wp2
        go_ret
        exact ⟨ret_int (by rw [e.out]; rfl), rfl⟩
theorem info4 : (Tryd.prog.info? 138).map (·.size) = some 4 := by kernel_rfl
theorem size4 (F : St) : (Tryd.prog.info? 138).map (·.size) = some (cs (tab 4 F)).size := by rw [info4, cs_size, tab_length]
theorem size4' (F : St) : (Tryd.prog.info? 138).map (·.size) = some ((tab 4 F).map bv).length := by rw [info4, List.length_map, tab_length]
theorem last4_range {w : World} {base g c : Nat} {l : List UInt8} (h : Own w base (some ⟨g, 0, none⟩) c l) (hl : 4 ≤ l.length) : w.rangeAt g (l.length - 4) ((tab 4 (last4 l)).map bv) := by
  intro j v hv
  have hj : j < 4 := by
    have := (List.getElem?_eq_some_iff.1 hv).1
    rw [List.length_map, tab_length] at this
    exact this
  obtain ⟨b, o, e, _, hc⟩ := h.rd.open_ (by omega)
  injection e with e
  injection e with e1 e2
  subst e1 e2
  rw [List.getElem?_map, tab_get _ _ _ hj] at hv
  have hv' : some (bv (last4 l j)) = some v := hv
  have h1 := hc (l.length - 4 + j) (by omega)
  rw [Nat.zero_add] at h1
  rw [h1, ← hv']
  rfl
set_option maxRecDepth 100000 in
set_option maxHeartbeats 4000000 in
theorem aeswords_any (A : Option Addr) (key : List UInt8) (nk : Nat) (hk4 : key.length = 4 * nk) (c : Nat) (w : World) (hr : Rd w A key) (hn : nk = 4 ∨ nk = 6 ∨ nk = 8) :
    Calls Tryd.prog 58 #[.slice A (4 * nk) c] w fun e w' => ∃ A' c', e = .returned (.tuple #[.slice A' (keyWords key).length c', .nilIface]) ∧ Own w' w.heap.size A' c' (keyWords key) ∧ Below w.heap.size w w' := by
  obtain ⟨n, hN⟩ : ∃ n, n = nr (4 * nk) := ⟨_, rfl⟩
  have hn0 : n = 10 ∨ n = 12 ∨ n = 14 := by unfold nr at hN; rcases hn with h | h | h <;> rw [h] at hN <;> simp at hN <;> omega
  have hnr := Lib.hid hN
  have hz : ((n : Int) == 0) = false := by rw [beq_eq_false_iff_ne]; omega
  have KW : Hid (wGo nk (4 * (n + 1) - nk) nk key 1 = keyWords key) := by
    show _ = _
    unfold keyWords
    rw [hk4, Nat.mul_div_cancel_left _ (by decide), ← hN]
  have HK := Lib.hid hk4
  have HN := Lib.hid hn
  have b1 : 4 ≤ nk := by omega
  have b2 : nk ≤ 8 := by omega
  have b3 : n ≤ 14 := by omega
  have b4 : 10 ≤ n := by omega
  clear hN hk4 hn hn0
  go_enter Tryd.func58, Tryd.ntmps58
  go_wp2_with fail
  refine (aesrounds_any _ _ _ _).mono ?_
  rintro e w' ⟨rfl, rfl⟩
  rw [← hnr.out]
  go_wp2_with (first
    | (at_builtin; refine wpList_app rfl _ _ rfl w.heap.size _ _ _ [] rfl rfl (Own.of_blk (g := w.heap.size) (by exact Blk.new _ _ _) (Nat.le_refl _) (by simp)) _ _ _ key HK.out.symm rfl (hr.alloc _) (by simp [HK.out]; omega) (by simp) ?_; intro A1 c1 w1 hown1 hg1 hat1; rw [List.nil_append, HK.out]))
  have hB1 : Below w.heap.size w w1 := ((Below.refl _ _).alloc (Nat.le_refl _) _).grown hg1 (by simp) (by intro k hk; simp [blkOf] at hk; omega)
  rw [List.nil_append] at hown1
  obtain ⟨g1, rfl, hg1b⟩ : ∃ g, A1 = some ⟨g, 0, none⟩ ∧ 4 * nk ≤ c1 := by
    rcases hown1.form with ⟨_, h⟩ | ⟨g, h, _, _, h2⟩
    · have e := HK.out
      rw [h] at e
      simp at e
      omega
    · exact ⟨g, h, by rw [← HK.out]; exact h2⟩
  clear hg1 hat1
  go_loopg [6, 7, 8] (4 * (n + 1) - nk) (fun gq s6 s7 s8 wr => ∃ (i g c : Nat) (l : List UInt8) (p : UInt8), s8 = .int .i64 i ∧ s6 = .slice (some ⟨g, 0, none⟩) (4 * i) c ∧ s7 = .int .u8 p.toNat ∧ nk ≤ i ∧ i ≤ 4 * (n + 1) ∧ gq = 4 * (n + 1) - i ∧ Hid (l.length = 4 * i) ∧ 4 * i ≤ c ∧
      Own wr w.heap.size (some ⟨g, 0, none⟩) c l ∧ Below w.heap.size w wr ∧ Hid (wGo nk (4 * (n + 1) - i) i l p = keyWords key))
  case atStart => exact ⟨nk, g1, c1, key, 1, rfl, rfl, rfl, by omega, by omega, rfl, HK, hg1b, hown1, hB1, KW⟩
  case round =>
    clear hr hB1 hown1 KW hg1b
    obtain ⟨i, g, c, l, p, rfl, rfl, rfl, hi1, hi2, hgk, hl, hc, hown, hB, HW⟩ := hrel
    obtain ⟨wo, rfl⟩ : ∃ wo : World, wo = wr := ⟨_, rfl⟩
    have HG := Lib.hid hgk
    clear hgk
    by_cases hlt : i < 4 * (n + 1)
    · have hrg := last4_range hown (by rw [hl.out]; omega)
      rw [hl.out] at hrg
      have HR := Lib.hid hrg
      clear hrg
      have harr : ∀ (a : Option Addr) (k : Nat) (w : World), (Instr.arrayAt 138 (.slice a (4 * i - (4 * i - 4)) k)).run Tryd.prog w = .ok (.pointer a) w := fun a k w => run_arrayAt w _ _ 4 a _ k Tryd.underlying138 (by omega)
      go_upto_block 2 with (first
        | (refine wpList_load_mid rfl 138 _ rfl g (4 * i - 4) rfl ((tab 4 (last4 l)).map bv) _ HR.out Tryd.underlying138 rfl (size4' _) ?_)
        | (refine wpList_store_new rfl 138 _ _ rfl (cs (tab 4 (last4 l))) _ (by first | rfl | simp) rfl rfl 138 _ (size4 _) (by rw [cs_size, tab_length]; rfl) (one_cs _) ?_))
      have hsz : w.heap.size ≤ wo.heap.size := hB.size
      have hgl : g < wo.heap.size := (hown.lt g rfl).2
      have hT := Blk.new wo 138 (cs (tab 4 (last4 l)))
      have hO1 := Lib.hid (hown.alloc (Obj.cells (cs (tab 4 (last4 l))) 138))
      have hB2 := Lib.hid (hB.alloc hsz (Obj.cells (cs (tab 4 (last4 l))) 138))
      clear hown hB harr HR
      go_simp
      go_cut [7] (fun s7 w2 => s7 = .int .u8 (pStep nk i p).toNat ∧ Own w2 w.heap.size (some ⟨g, 0, none⟩) c l ∧ Blk w2 wo.heap.size 138 (cs (tab 4 (tStep nk i (last4 l) p))) ∧ Below w.heap.size w w2)
      case first =>
        by_cases m1 : i % nk = 0
        · have t1 : (((i : Int) % (nk : Int)) == 0) = true := by rw [beq_iff_eq]; omega
          have M := Lib.hid m1
          clear m1
          have d0 := tab_cell hT 0 (by decide)
          have d1 := tab_cell hT 1 (by decide)
          have d2 := tab_cell hT 2 (by decide)
          have d3 := tab_cell hT 3 (by decide)
          go_wp2_with fail
          refine wp_region_quiet_tail (C := fun w' => ∃ n, w' = (wo.alloc (Obj.cells (cs (tab 4 (last4 l))) 138)).drewN n) 15 (by kernel_rfl) (by kernel_rfl) ⟨1, rfl⟩ ?_
          simp only [List.take_succ_cons, List.take_zero, List.drop_succ_cons, List.drop_zero]
          repeat (go_big_quiet_step ((first
            | (go_at_call_of 65 (Value.int .u8 ((last4 l 1).toNat : Int)); exact Calls.quiet_of (gfbox_any (last4 l 1) _ rfl _))
            | (go_at_call_of 65 (Value.int .u8 ((last4 l 2).toNat : Int)); exact Calls.quiet_of (gfbox_any (last4 l 2) _ rfl _))
            | (go_at_call_of 65 (Value.int .u8 ((last4 l 3).toNat : Int)); exact Calls.quiet_of (gfbox_any (last4 l 3) _ rfl _))
            | (go_at_call_of 65 (Value.int .u8 ((last4 l 0).toNat : Int)); exact Calls.quiet_of (gfbox_any (last4 l 0) _ rfl _)))))
          refine wpQuiet_nil ?_
          intro _ hw'
          obtain ⟨nq, hw''⟩ := hw'
          subst hw''
          have E : Hid (cs (tab 4 (tStep nk i (last4 l) p)) = #[.int .u8 (bits .xor .u8 ((gbox (last4 l 1)).toNat : Int) (p.toNat : Int)), .int .u8 ((gbox (last4 l 2)).toNat : Int), .int .u8 ((gbox (last4 l 3)).toNat : Int), .int .u8 ((gbox (last4 l 0)).toNat : Int)]) := by
            show _ = _
            rw [u8_bits_xor]; unfold tStep; rw [if_pos M.out]; rfl
          refine wpList_store_blk rfl 138 _ _ rfl wo.heap.size _ rfl rfl 138 _ (hT.drewN nq) info4 (by rw [cs_size, tab_length]; rfl) (by rw [← E.out]; exact one_cs _) ?_
          rw [← E.out]
          go_wp2_with fail
          refine (gfmul_any p 2 _ _ rfl rfl _).mono ?_
          rintro e w' ⟨rfl, rfl⟩
          go_wp2_with fail
          go_meet
          exact ⟨by unfold pStep; rw [if_pos M.out], (hO1.out.drewN nq).kept (only_of_setRow _ _ _) (.inr (by simp [blkOf]; omega)), (hT.drewN nq).setRow _, below_row (below_drewN hB2.out nq) hsz _⟩
        · have t1 : (((i : Int) % (nk : Int)) == 0) = false := by
            rw [beq_eq_false_iff_ne]; intro h; apply m1; omega
          have M := Lib.hid m1
          clear m1
          by_cases m2 : nk = 8
          · have t2 : ((nk : Int) == 8) = true := by rw [beq_iff_eq]; omega
            by_cases m3 : i % 8 = 4
            · have t3 : (((i : Int) % 8) == 4) = true := by rw [beq_iff_eq]; omega
              have E : Hid (tStep nk i (last4 l) p = boxesK (last4 l) gbox) := by
                show _ = _
                unfold tStep; rw [if_neg M.out, if_pos ⟨m2, m3⟩]; rfl
              clear m2 m3
              go_wp2_with fail
              go_loopg [68, 10] 4 (fun gq s68 _ w2 => ∃ k : Nat, k ≤ 4 ∧ s68 = .int .i64 k ∧ gq = 4 - k ∧ Own w2 w.heap.size (some ⟨g, 0, none⟩) c l ∧ Blk w2 wo.heap.size 138 (cs (tab 4 (upto k (boxesK (last4 l) gbox) (last4 l)))) ∧ Below w.heap.size w w2)
              case atStart => exact ⟨0, by omega, rfl, rfl, hO1.out, by rw [upto_0]; exact hT, hB2.out⟩
              case round =>
                clear hO1 hB2 hT
                obtain ⟨k, hk, rfl, hgk, hO, hT, hB2⟩ := hrel
                have HG2 := Lib.hid hgk
                clear hgk
                by_cases hlt : k < 4
                · have f1 := hT.frozen k
                  have d1 := tab_cell hT k hlt
                  rw [upto_at] at d1
                  go_wp2_with fail
                  refine (gfbox_any (last4 l k) _ rfl _).mono ?_
                  rintro e w' ⟨rfl, m, rfl⟩
                  go_wp2_with fail
                  go_roundg (4 - (k + 1))
                  case measure => have := HG2.out; omega
                  case rel => exact ⟨k + 1, by omega, by go_num, rfl, (hO.drewN m).far (p := ⟨wo.heap.size, k, none⟩) (by simp [blkOf]; omega) _, blk_upto (hT.drewN m) _ rfl, (below_drewN hB2 m).setCell (p := ⟨wo.heap.size, k, none⟩) hsz _⟩
                · obtain rfl : k = 4 := by omega
                  go_wp2_with fail
                  go_meet
                  exact ⟨by unfold pStep; rw [if_neg M.out], hO, by rw [E.out, ← upto_all 4 _ (last4 l)]; exact hT, hB2⟩
            · have t3 : (((i : Int) % 8) == 4) = false := by rw [beq_eq_false_iff_ne]; omega
              have E : Hid (tStep nk i (last4 l) p = last4 l) := by
                show _ = _
                unfold tStep; rw [if_neg M.out, if_neg (fun h => m3 h.2)]
              clear m2 m3
              go_wp2_with fail
              go_meet
              exact ⟨by unfold pStep; rw [if_neg M.out], hO1.out, by rw [E.out]; exact hT, hB2.out⟩
          · have t2 : ((nk : Int) == 8) = false := by rw [beq_eq_false_iff_ne]; omega
            have E : Hid (tStep nk i (last4 l) p = last4 l) := by
              show _ = _
              unfold tStep; rw [if_neg M.out, if_neg (fun h => m2 h.1)]
            clear m2
            go_wp2_with fail
            go_meet
            exact ⟨by unfold pStep; rw [if_neg M.out], hO1.out, by rw [E.out]; exact hT, hB2.out⟩
      case rest =>
        obtain ⟨rfl, hO, hT2, hB3⟩ := hcut
        clear hO1 hB2 hT
        obtain ⟨T, hTT⟩ : ∃ T, T = tStep nk i (last4 l) p := ⟨_, rfl⟩
        rw [← hTT] at hT2
        have HT := Lib.hid hTT
        clear hTT
        go_wp2_with fail
        go_loopg [6, 11, 78] 4 (fun gq s6 _ s78 w2 => ∃ (k g c : Nat), k ≤ 4 ∧ s78 = .int .i64 k ∧ s6 = .slice (some ⟨g, 0, none⟩) (4 * i + k) c ∧ gq = 4 - k ∧ 4 * i + k ≤ c ∧ Own w2 w.heap.size (some ⟨g, 0, none⟩) c (ext nk T k l) ∧ Blk w2 wo.heap.size 138 (cs (tab 4 T)) ∧ Below w.heap.size w w2 ∧ g ≠ wo.heap.size ∧ wo.heap.size < w2.heap.size)
        case atStart => exact ⟨0, g, c, by omega, rfl, rfl, rfl, hc, hO, hT2, hB3, by omega, hT2.lt⟩
        case round =>
          clear hO hT2 hB3 hc hgl
          obtain ⟨k, g, c, hk, rfl, rfl, hgk2, hc, hO, hT, hB2, hgT, hTl⟩ := hrel
          have HG2 := Lib.hid hgk2
          clear hgk2
          have hlen : Hid ((ext nk T k l).length = 4 * i + k) := by show _ = _; rw [ext_length, hl.out]
          by_cases hlt : k < 4
          · have hrd := hO.rd
            obtain ⟨b, o, e, _, hcell⟩ := hrd.open_ (by rw [hlen.out]; omega)
            obtain rfl : g = b := by injection e with e; injection e
            obtain rfl : 0 = o := by injection e with e; injection e
            have d1 := hcell (4 * i + k - 4 * nk) (by rw [hlen.out]; omega)
            rw [Nat.zero_add] at d1
            have d2 := tab_cell hT k hlt
            obtain ⟨x, hx⟩ : ∃ x, x = (ext nk T k l)[4 * i + k - 4 * nk]?.getD 0 ^^^ T k := ⟨_, rfl⟩
            have ex : bits .xor .u8 (((ext nk T k l)[4 * i + k - 4 * nk]?.getD 0).toNat : Int) ((T k).toNat : Int) = (x.toNat : Int) := by rw [hx]; exact u8_bits_xor _ _
            have hk1 : Hid (ext nk T (k + 1) l = ext nk T k l ++ [x]) := by
              show _ = _
              rw [hx]; simp only [ext]; rw [hlen.out]
            have HE := Lib.hid e
            clear hcell e hx hrd
            have e1 : IntKind.i64.wrap (4 * (nk : Int)) = 4 * (nk : Int) := IntWalk.i64_in _ (by omega)
            have e2 : IntKind.i64.wrap (4 * (i : Int) + (k : Int) - 4 * (nk : Int)) = 4 * (i : Int) + (k : Int) - 4 * (nk : Int) := IntWalk.i64_in _ (by omega)
            have e3 : 4 * (nk : Int) ≤ 4 * (i : Int) + (k : Int) := by omega
            have e4 : 4 * (i : Int) + (k : Int) - 4 * (nk : Int) < 4 * (i : Int) + (k : Int) := by omega
            have e5 : (4 * (i : Int) + (k : Int) - 4 * (nk : Int)).toNat = 4 * i + k - 4 * nk := by omega
            go_wp2_with fail
            go_region_law (refine step_app rfl _ _ rfl w.heap.size (some ⟨g, 0, none⟩) (4 * i + k) c (ext nk T k l) hlen.out.symm rfl (by exact hO.drew.alloc _) (some ⟨wr.heap.size, 0, none⟩) 1 1 [x] rfl rfl (by exact Rd.of_blk (l := [x]) (Blk.new _ _ _)) (by rw [hlen.out]; simp; omega) (by have := hB2.size; simp; omega) ?_; intro A' c' w3 hown' hg' hat')
            all_goals clear e1 e2 e3 e4 e5
            all_goals
              have hlen2 : (ext nk T k l ++ [x]).length = 4 * i + (k + 1) := by rw [List.length_append, hlen.out]; rfl
              obtain ⟨g', rfl, hgb, hc'⟩ : ∃ g', A' = some ⟨g', 0, none⟩ ∧ g' ≠ wo.heap.size ∧ 4 * i + (k + 1) ≤ c' := by
                rcases hown'.form with ⟨_, h⟩ | ⟨g', h, h2, _, h3⟩
                · rw [h] at hlen2; simp at hlen2
                · refine ⟨g', h, ?_, by rw [← hlen2]; exact h3⟩
                  rw [h] at hat'
                  simp [blkOf] at hat'
                  omega
              have hT3 : Blk w3 wo.heap.size 138 (cs (tab 4 T)) := Blk.grown (by exact (hT.drew.alloc _)) hg' (by simp [blkOf]; omega)
              have hB3 : Below w.heap.size w w3 := Below.grown (by exact (hB2.drew.alloc (by exact hB2.size) _)) hg' (by have := hB2.size; simp; omega) (by intro q hq; have := (hO.lt q hq).1; omega)
              have hlen3 := hlen.out
              have HO3 := Lib.hid hown'
              have HS := Lib.hid hT3.lt
              clear hown' hg' hat' hlen2 ex d1 d2
              go_wp2_with fail
              clear hlen3
              go_roundg (4 - (k + 1))
              case measure => have := HG2.out; omega
              case rel => exact ⟨k + 1, g', c', by omega, by go_num, rfl, rfl, hc', by rw [hk1.out]; exact HO3.out, hT3, hB3, hgb, HS.out⟩
          · obtain rfl : k = 4 := by omega
            have hfin : Hid (wGo nk (4 * (n + 1) - (i + 1)) (i + 1) (ext nk T 4 l) (pStep nk i p) = keyWords key) := by
              have e : 4 * (n + 1) - i = (4 * (n + 1) - (i + 1)) + 1 := by omega
              have h := HW.out
              rw [e] at h
              show _ = _
              rw [HT.out]
              exact h
            go_wp2_with fail
            go_roundg (4 * (n + 1) - (i + 1))
            case measure => have := HG.out; omega
            case rel => exact ⟨i + 1, g, c, ext nk T 4 l, pStep nk i p, by go_num, rfl, rfl, by omega, by omega, rfl, hlen, hc, hO, hB2, hfin⟩
    · obtain rfl : i = 4 * (n + 1) := by omega
      have hfin : Hid (l = keyWords key) := by
        have h := HW.out
        rw [Nat.sub_self] at h
        exact h
      go_wp2_with fail
      go_ret2
      refine ⟨some ⟨g, 0, none⟩, c, ?_, by rw [← hfin.out]; exact hown, hB⟩
      rw [← hfin.out, hl.out]
      rfl
end Go.Proofs.YtbmhmohpnhckgaaDoor
