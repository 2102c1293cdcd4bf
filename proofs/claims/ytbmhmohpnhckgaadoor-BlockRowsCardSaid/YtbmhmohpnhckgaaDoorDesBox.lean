/- DES: the small functions -/
import Derived.Test.YtbmhmohpnhckgaaDoorDesWalk
import Derived.Test.YtbmhmohpnhckgaaDoorBytes
import Derived.Test.YtbmhmohpnhckgaaDoorAesWalk
import Derived.Laws.ResultCell
import Derived.Test.YtbmhmohpnhckgaaDoorHeld
namespace Go.Proofs.YtbmhmohpnhckgaaDoor
open Go.RowKit Lb
theorem idx_arr {P : Program} {T E : TypeId} {n : Nat} (hT : P.underlying T = some (.array n E)) (hag : ∀ w, (isAgg E).run P w = .ok false w) (hsz : ∀ w, (sizeOf E).run P w = .ok 1 w) (k : IntKind) (c : Array Value) (i : Int) (j : Nat) (v : Value) (hi : i = j) (hj : j < n) (hv : c[j]? = some v) (w : World) :
    (Instr.index T (.agg c) (.int k i)).run P w = .ok v w := by
  subst hi
  simp [Instr.index, asIntOf, run_underlying hT, part, hag, hsz, hj, hv]
theorem agg8 (w : World) : (isAgg 5).run Tryd.prog w = .ok false w := by kernel_rfl
theorem siz8 (w : World) : (sizeOf 5).run Tryd.prog w = .ok 1 w := by kernel_rfl
theorem idx_strk {P : Program} {t : TypeId} (h : P.underlying t = some .string) (k : IntKind) (s : ByteArray) (i : Int) (j : Nat) (hi : i = j) (hj : j < s.size) (w : World) :
    (Instr.index t (.string s) (.int k i)).run P w = .ok (.int .u8 ((byteAt s j).toNat : Int)) w := by
  subst hi
  have hj2 : j < s.data.toList.length := by simpa using hj
  have e : s[j]? = some (byteAt s j) := by
    unfold byteAt
    rw [List.getD_eq_getElem?_getD, List.getElem?_eq_getElem hj2]
    simp only [Option.getD_some]
    rw [getElem?_pos s j hj]
    rfl
  simp [Instr.index, asIntOf, run_underlying h, e]
theorem num_end (p b : Nat) (k : Nat) (hk : k < 8) (hp : p < 2 ^ (8 * k)) (hb : b < 256) : Value.int .u64 (bits .or .u64 (IntKind.u64.wrap ((p : Int) * 256)) (b : Int)) = .int .u64 ((p * 256 + b : Nat) : Int) := by
  have h1 : (2 : Nat) ^ (8 * k) ≤ 2 ^ 56 := Nat.pow_le_pow_right (by decide) (by omega)
  have e56 : (2 : Nat) ^ 56 = 72057594037927936 := by decide
  have e : ((p : Int) * 256) = ((p * 2 ^ 8 : Nat) : Int) := by simp
  rw [e, IntWalk.u64_in _ (by omega), u64_join p b 8 (by unfold U64; omega) (by omega)]
theorem info8' : (Tryd.prog.info? 66).map (·.size) = some 8 := by kernel_rfl
theorem size8 (F : St) : (Tryd.prog.info? 66).map (·.size) = some (cs (tab 8 F)).size := by rw [info8', cs_size, tab_length]
set_option maxRecDepth 100000 in
set_option maxHeartbeats 1000000 in
theorem desnumber_any (F : Nat → UInt8) (bs : Array Value) (hbs : bs = cs (tab 8 F)) (w : World) : Calls Tryd.prog 49 #[.agg bs] w fun e w' => e = .returned (.int .u64 (numN F 8 : Nat)) ∧ Below w.heap.size w w' := by
  subst hbs
  have i1 : ∀ (k : Nat), k < 8 → ∀ w, (Instr.index 66 (.agg (cs (tab 8 F))) (.int .i64 (k : Int))).run Tryd.prog w = .ok (.int .u8 ((F k).toNat : Int)) w := fun k hk w =>
    idx_arr Tryd.underlying66 agg8 siz8 _ _ _ k _ rfl hk (by rw [cs_get, tab_get _ _ _ hk]; rfl) w
  go_enter Tryd.func49, Tryd.ntmps49
  go_wp2_with (first
    | (refine wpList_load_row rfl 66 _ rfl w.heap.size rfl 66 _ (0, 0) _ (Blk.new w 66 (cs (tab 8 F))) Tryd.underlying66 rfl (size8 F) ?_))
  go_loop [3, 5, 7] (fun s3 _ s7 => ∃ k : Nat, k ≤ 8 ∧ s7 = .int .i64 (k : Int) ∧ s3 = .int .u64 (numN F k : Nat)) (fun _ _ s7 => 8 - (intOf s7).toNat)
  case atStart => exact ⟨0, by omega, rfl, rfl⟩
  case round =>
    obtain ⟨k, hk, rfl, rfl⟩ := hrel
    by_cases hlt : k < 8
    · have i2 := i1 k hlt
      have hb := (F k).toNat_lt
      obtain ⟨b, hbe⟩ : ∃ b, b = (F k).toNat := ⟨_, rfl⟩
      rw [← hbe] at hb i2
      have HB := Lib.hid hbe
      have hp := Lib.hid (numN_lt F k)
      clear i1 hbe
      go_wp2
      go_round
      case rel => exact ⟨k + 1, by omega, by go_num, by rw [num_end _ _ k hlt hp.out (by omega), HB.out]; rfl⟩
      case measure => simp [intOf]; omega
    · obtain rfl : k = 8 := by omega
      clear i1
      go_wp2
      go_ret
      exact ⟨rfl, (Below.refl _ _).alloc (Nat.le_refl _) _⟩
theorem byte_out (x k : Nat) : ((x : Int) / 2 ^ (56 - 8 * k)) % 256 = ((bytN x k).toNat : Int) := by
  have e : ((x : Int) / 2 ^ (56 - 8 * k)) = ((x / 2 ^ (56 - 8 * k) : Nat) : Int) := by simp
  rw [e]
  unfold bytN
  rw [UInt8.toNat_ofNat']
  generalize x / 2 ^ (56 - 8 * k) = q
  omega
theorem results_cell1 {fn : Func} {p : Tmp} {ty : TypeId} (h : fn.results = #[.cell p ty]) (tmps : Array Value) (P : Program) (w : World) (b : Nat) (c : Array Value) (t : TypeId) (hp : tmps.getD p undef = .pointer (some ⟨b, 0, none⟩))
    (hb : Blk w b t c) (d : TypeDesc) (hu : P.underlying ty = some d) (hd : d.isRow = true) (hi : (P.info? ty).map (·.size) = some c.size) :
    (results fn tmps).run P w = .ok (.agg c) w := by
  simp only [results, h]
  have e : (asAddr (.pointer (some ⟨b, 0, none⟩))).run P w = .ok ⟨b, 0, none⟩ w := rfl
  have hr : w.rangeAt b 0 c.toList := by have := hb.range 0 c.size; simpa using this
  have hl := run_loadVar_mid (P := P) w b 0 ty c.toList d hr hu hd (by simpa using hi)
  simp only [Array.getD_eq_getD_getElem?] at hp
  simp [Sem.run_bind, Result.andThen, hp, e, hl]
set_option maxRecDepth 100000 in
set_option maxHeartbeats 1000000 in
theorem desbytes_any (x : Nat) (a : Int) (ha : a = x) (w : World) : Calls Tryd.prog 51 #[.int .u64 a] w fun e w' => e = .returned (.agg (cs (tab 8 (bytN x)))) ∧ Below w.heap.size w w' := by
  subst ha
  go_enter Tryd.func51, Tryd.ntmps51
  go_wp2
  have hz : (#[Value.int IntKind.u8 0, Value.int IntKind.u8 0, Value.int IntKind.u8 0, Value.int IntKind.u8 0, Value.int IntKind.u8 0, Value.int IntKind.u8 0, Value.int IntKind.u8 0, Value.int IntKind.u8 0] : Array Value) = cs (tab 8 (fun _ => 0)) := rfl
  rw [hz]
  clear hz
  have hR0 : Blk ((w.alloc (Obj.cells (cs (tab 8 (fun _ => 0))) 66)).alloc (Obj.cells (cs (tab 8 (fun _ => 0))) 66)) w.heap.size 66 (cs (tab 8 (fun _ => 0))) := (Blk.new _ _ _).alloc _
  have hB0 : Blk ((w.alloc (Obj.cells (cs (tab 8 (fun _ => 0))) 66)).alloc (Obj.cells (cs (tab 8 (fun _ => 0))) 66)) (w.heap.size + 1) 66 (cs (tab 8 (fun _ => 0))) := Blk.new_at (by simp) _ _
  have hW0 : Below w.heap.size w ((w.alloc (Obj.cells (cs (tab 8 (fun _ => 0))) 66)).alloc (Obj.cells (cs (tab 8 (fun _ => 0))) 66)) := ((Below.refl _ _).alloc (Nat.le_refl _) _).alloc (by simp) _
  go_loopw [4, 5] (fun _ s5 wr => ∃ k : Nat, k ≤ 8 ∧ s5 = .int .i64 (k : Int) ∧ Blk wr w.heap.size 66 (cs (tab 8 (fun _ => 0))) ∧ Blk wr (w.heap.size + 1) 66 (cs (tab 8 (upto k (bytN x) (fun _ => 0)))) ∧ Below w.heap.size w wr) (fun _ s5 _ => 8 - (intOf s5).toNat)
  case atStart => exact ⟨0, by omega, rfl, hR0, by rw [upto_0]; exact hB0, hW0⟩
  case round =>
    clear hR0 hB0 hW0
    obtain ⟨k, hk, rfl, hR, hB, hW⟩ := hrel
    by_cases hlt : k < 8
    · have f1 := hB.frozen k
      have c1 := tab_cell hB k hlt
      go_wp2
      go_roundw
      case rel => exact ⟨k + 1, by omega, by go_num, hR.far (p := ⟨w.heap.size + 1, k, none⟩) (by simp) _, blk_upto hB _ (byte_out x k), hW.setCell (by simp) _⟩
      case measure => simp [intOf]; omega
    · obtain rfl : k = 8 := by omega
      rw [upto_all] at hB
      go_wp2_with (first
        | (refine wpList_load_row rfl 66 _ rfl (w.heap.size + 1) rfl 66 _ (0, 0) _ hB Tryd.underlying66 rfl (size8 _) ?_)
        | (refine wpList_store_blk rfl 66 _ _ rfl w.heap.size (cs (tab 8 (bytN x))) rfl rfl 66 _ hR (size8 _) (by rw [cs_size, cs_size, tab_length, tab_length]) (one_cs _) ?_))
      refine bodyPost_ret (results_cell1 Tryd.results51 _ _ _ w.heap.size (cs (tab 8 (bytN x))) 66 rfl (hR.setRow _) _ Tryd.underlying66 rfl (size8 _)) rfl ?_
      exact ⟨rfl, below_row hW (Nat.le_refl _) _⟩
theorem turn_end (x n : Nat) (hx : x < 268435456) (hn : n = 1 ∨ n = 2) : bits .and .u64 (bits .or .u64 ((x : Int) * 2 ^ n) ((x : Int) / 2 ^ (28 - n))) 268435455 = ((turnN x n : Nat) : Int) := by
  have e1 : ((x : Int) * 2 ^ n) = ((x * 2 ^ n : Nat) : Int) := by simp
  have e2 : ((x : Int) / 2 ^ (28 - n)) = ((x / 2 ^ (28 - n) : Nat) : Int) := by simp
  have e3 : (268435455 : Int) = ((2 ^ 28 - 1 : Nat) : Int) := by decide
  have h1 : x * 2 ^ n ≤ x * 4 := Nat.mul_le_mul_left _ (by rcases hn with rfl | rfl <;> decide)
  have h2 : x / 2 ^ (28 - n) < 2 ^ n := by rcases hn with rfl | rfl <;> simp <;> omega
  have h3 : (2 : Nat) ^ n ≤ 4 := by rcases hn with rfl | rfl <;> decide
  have h4 : x * 2 ^ n + x / 2 ^ (28 - n) < 18446744073709551616 := by omega
  rw [e1, e2, e3, u64_join _ _ _ h4 h2, u64_and_nat _ _ h4 (by decide), Nat.and_two_pow_sub_one_eq_mod]
  rfl
set_option maxRecDepth 100000 in
set_option maxHeartbeats 1000000 in
theorem desturn_any (x n : Nat) (a b : Int) (ha : a = x) (hb : b = n) (hx : x < 268435456) (hn : n = 1 ∨ n = 2) (w : World) : Calls Tryd.prog 73 #[.int .u64 a, .int .i64 b] w fun e w' => e = .returned (.int .u64 (turnN x n : Nat)) ∧ ∃ q, w' = w.drewN q := by
  subst ha hb
  have HT := Lib.hid (turn_end x n hx hn)
  rcases hn with rfl | rfl
  · go_enter Tryd.func73, Tryd.ntmps73
    go_wp2
    go_quiet (fail)
    go_wp2
    go_ret
    exact ⟨ret_int (by have h := HT.out; simp only [Nat.reduceSub, Int.reducePow] at h; exact h), _, rfl⟩
  · go_enter Tryd.func73, Tryd.ntmps73
    go_wp2
    go_quiet (fail)
    go_wp2
    go_ret
    exact ⟨ret_int (by have h := HT.out; simp only [Nat.reduceSub, Int.reducePow] at h; exact h), _, rfl⟩
theorem aggS (w : World) : (isAgg 9).run Tryd.prog w = .ok false w := by kernel_rfl
theorem sizS (w : World) : (sizeOf 9).run Tryd.prog w = .ok 1 w := by kernel_rfl
def boxCells : Array Value := ((List.range 8).map fun i => Value.string (boxS i)).toArray
def boxParts : List (Nat × Value) := (List.range 8).map fun i => (i, Value.string (boxS i))
theorem boxIx_fin : ∀ s : Fin 64, (IntKind.u64.wrap (IntKind.u64.wrap (bits .or .u64 (bits .and .u64 ((s.val : Int) / 16) 2) (bits .and .u64 (s.val : Int) 1) * 16) + bits .and .u64 ((s.val : Int) / 2) 15)) = ((boxIx s.val : Nat) : Int) := by decide +kernel
theorem boxIx_eq (s : Nat) (hs : s < 64) : (IntKind.u64.wrap (IntKind.u64.wrap (bits .or .u64 (bits .and .u64 ((s : Int) / 16) 2) (bits .and .u64 (s : Int) 1) * 16) + bits .and .u64 ((s : Int) / 2) 15)) = ((boxIx s : Nat) : Int) := boxIx_fin ⟨s, hs⟩
set_option maxRecDepth 100000 in
set_option maxHeartbeats 1000000 in
theorem desbox_any (i s : Nat) (a b : Int) (ha : a = i) (hb : b = s) (hi : i < 8) (hs : s < 64) (w : World) : Calls Tryd.prog 74 #[.int .i64 a, .int .u64 b] w fun e w' => e = .returned (.int .u64 (boxN i s : Nat)) ∧ w' = w := by
  subst ha hb
  have i1 : ∀ w, (Instr.index 158 (.agg boxCells) (.int .i64 (i : Int))).run Tryd.prog w = .ok (.string (boxS i)) w := fun w =>
    idx_arr Tryd.underlying158 aggS sizS _ _ _ i _ rfl hi (by simp [boxCells, hi]) w
  obtain ⟨c, hc⟩ : ∃ c, c = (byteAt (boxS i) (boxIx s)).toNat := ⟨_, rfl⟩
  have i2 : ∀ w, (Instr.index 9 (.string (boxS i)) (.int .u64 (IntKind.u64.wrap (IntKind.u64.wrap (bits .or .u64 (bits .and .u64 ((s : Int) / 16) 2) (bits .and .u64 (s : Int) 1) * 16) + bits .and .u64 ((s : Int) / 2) 15)))).run Tryd.prog w = .ok (.int .u8 (c : Int)) w := fun w => by
    rw [hc]
    exact idx_strk Tryd.underlying9 _ _ _ _ (boxIx_eq s hs) (by rw [boxS_size i hi]; exact boxIx_lt s hs) w
  obtain ⟨hB1, hB2⟩ := boxS_byte i hi s hs
  rw [← show c = ((boxS i).data.toList.getD (boxIx s) 0).toNat from hc] at hB1 hB2
  have hlt := boxN_lt i hi s hs
  obtain ⟨v, hv⟩ : ∃ v, v = boxN i s := ⟨_, rfl⟩
  rw [← hv] at hB1 hB2 hlt ⊢
  clear hv hc
  by_cases h10 : 10 ≤ v
  · have h1 := hB1 h10
    obtain ⟨h1, rfl⟩ := h1
    clear hB1 hB2
    go_enter Tryd.func74, Tryd.ntmps74
    go_wp2_with (first
      | (refine wpList_build_to rfl 158 _ rfl boxParts boxCells (by kernel_rfl) (by kernel_rfl) ?_))
    go_ret
    exact ⟨ret_int (by omega), rfl⟩
  · obtain rfl := hB2 (by omega)
    clear hB1 hB2
    go_enter Tryd.func74, Tryd.ntmps74
    go_wp2_with (first
      | (refine wpList_build_to rfl 158 _ rfl boxParts boxCells (by kernel_rfl) (by kernel_rfl) ?_))
    go_ret
    exact ⟨ret_int (by omega), rfl⟩
end Go.Proofs.YtbmhmohpnhckgaaDoor
