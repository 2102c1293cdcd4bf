/- errors.As at *Errno, api.Code -/
import Derived.Test.YtbmhmohpnhckgaaDoorProg
import Derived.Test.YtbmhmohpnhckgaaDoorMem
import Derived.LaidEql
import Derived.Stop.Asserts
import Derived.WalkKit
import Derived.RowKitTokens
import Derived.KernelRfl
namespace Go.Proofs.YtbmhmohpnhckgaaDoor
open Go.RowKit Go.Extern.Stop Go.Stop Go.Extern
/-- the handle of a type -/
def hd (t : Nat) : Value := .pointer (some ⟨1, t, none⟩)
/-- a reflectlite.Value -/
def rv (t : Nat) (a : Addr) (f : Int) : Value := .agg #[.pointer (some ⟨1, t, none⟩), .pointer (some a), .int .u64 f]
theorem rx_valueOfP (t : Addr) (w : World) : (ReflectliteValue.unpack (.iface 64 (.pointer (some t)))).run Tryd.prog w
    = .ok (.agg #[.pointer (some ⟨1, 64, none⟩), .pointer (some ⟨w.heap.size, 0, none⟩), .int .u64 150]) (w.alloc (.cells #[.pointer (some t)] 64)) := by kernel_rfl
theorem rx_typeP (a : Addr) (w : World) : (ReflectliteValue.methodAny (ReflectliteValue.valueError "reflectlite.Value.Type" 0) (fun t _ _ _ => ReflectliteType.toType t) #[.agg #[.pointer (some ⟨1, 64, none⟩), .pointer (some a), .int .u64 150]]).run Tryd.prog w
    = .ok (.iface 103 (.agg #[.pointer (some ⟨1, 64, none⟩)])) w := by kernel_rfl
theorem rx_kindP (w : World) : ((ReflectliteType.abiMethod fun t => (fun a : Nat => Value.int IntKind.u8 (a : Int)) <$> Rtype.kind t) #[.pointer (some ⟨1, 64, none⟩)]).run Tryd.prog w = .ok (.int .u8 22) w := by kernel_rfl
theorem rx_kindE (w : World) : ((ReflectliteType.abiMethod fun t => (fun a : Nat => Value.int IntKind.u8 (a : Int)) <$> Rtype.kind t) #[.pointer (some ⟨1, 59, none⟩)]).run Tryd.prog w = .ok (.int .u8 2) w := by kernel_rfl
theorem rlm (z : Sem Value) (f : TypeId → Addr → Nat → Nat → Sem Value) (v : Value) :
    ReflectliteValue.method z f #[v] = (do match ← ReflectliteValue.parts v with | none => z | some (t, a, fl) => f t a fl (fl % 32)) := rfl
theorem rx_partsP (a : Addr) (w : World) : (ReflectliteValue.parts (.agg #[.pointer (some ⟨1, 64, none⟩), .pointer (some a), .int .u64 150])).run Tryd.prog w = .ok (some (64, a, 150)) w := by kernel_rfl
theorem rx_isNil (a p : Addr) (W : World) (ha : W.cell? a = some (.pointer (some p))) :
    (ReflectliteValue.method (ReflectliteValue.valueError "reflectlite.Value.IsNil" 0) ReflectliteValue.isNil #[.agg #[.pointer (some ⟨1, 64, none⟩), .pointer (some a), .int .u64 150]]).run Tryd.prog W = .ok (.bool false) W := by
  rw [rlm]
  simp only [Sem.run_bind, rx_partsP, Result.andThen]
  simp [ReflectliteValue.isNil, loadVar, isAgg, underlying, Tryd.underlying64, ha, Result.andThen]
theorem rx_elem (w : World) : (ReflectliteType.method ReflectliteType.elem #[.agg #[.pointer (some ⟨1, 64, none⟩)]]).run Tryd.prog w = .ok (.iface 103 (.agg #[.pointer (some ⟨1, 59, none⟩)])) w := by kernel_rfl
theorem rx_implements (w : World) : (ReflectliteType.relation "Implements" ReflectliteType.implements_ #[.agg #[.pointer (some ⟨1, 59, none⟩)], .iface 103 (.agg #[.pointer (some ⟨1, 29, none⟩)])]).run Tryd.prog w = .ok (.bool true) w := by kernel_rfl
theorem rx_typeOfE (v : Value) (w : World) : (ReflectliteType.typeOf #[.iface 59 v]).run Tryd.prog w = .ok (.iface 103 (.agg #[.pointer (some ⟨1, 59, none⟩)])) w := by kernel_rfl
theorem rx_typeOfF (v : Value) (w : World) : (ReflectliteType.typeOf #[.iface 159 v]).run Tryd.prog w = .ok (.iface 103 (.agg #[.pointer (some ⟨1, 159, none⟩)])) w := by kernel_rfl
theorem rx_assignE (w : World) : (ReflectliteType.relation "AssignableTo" ReflectliteType.assignableTo #[.agg #[.pointer (some ⟨1, 59, none⟩)], .iface 103 (.agg #[.pointer (some ⟨1, 59, none⟩)])]).run Tryd.prog w = .ok (.bool true) w := by kernel_rfl
theorem rx_assignF (w : World) : (ReflectliteType.relation "AssignableTo" ReflectliteType.assignableTo #[.agg #[.pointer (some ⟨1, 159, none⟩)], .iface 103 (.agg #[.pointer (some ⟨1, 59, none⟩)])]).run Tryd.prog w = .ok (.bool false) w := by kernel_rfl
theorem rx_valueOfE (n : Int) (w : World) : (ReflectliteValue.unpack (.iface 59 (.int .i64 n))).run Tryd.prog w
    = .ok (.agg #[.pointer (some ⟨1, 59, none⟩), .pointer (some ⟨w.heap.size, 0, none⟩), .int .u64 130]) (w.alloc (.cells #[.int .i64 n] 59)) := by kernel_rfl
theorem rx_elemOf (w : World) : (Rtype.elem? 64).run Tryd.prog w = .ok (some 59) w := by kernel_rfl
theorem rx_mk (p : Addr) (w : World) : (ReflectliteValue.mk 59 p ReflectliteValue.flagAddr).run Tryd.prog w = .ok (.agg #[.pointer (some ⟨1, 59, none⟩), .pointer (some p), .int .u64 386]) w := by kernel_rfl
theorem rx_elemV (a p : Addr) (W : World) (ha : W.cell? a = some (.pointer (some p))) :
    (ReflectliteValue.method (ReflectliteValue.valueError "reflectlite.Value.Elem" 0) ReflectliteValue.elem #[.agg #[.pointer (some ⟨1, 64, none⟩), .pointer (some a), .int .u64 150]]).run Tryd.prog W
      = .ok (.agg #[.pointer (some ⟨1, 59, none⟩), .pointer (some p), .int .u64 386]) W := by
  rw [rlm]
  simp only [Sem.run_bind, rx_partsP, Result.andThen]
  simp [ReflectliteValue.elem, loadVar, isAgg, underlying, Tryd.underlying64, ha, Result.andThen, rx_elemOf, rx_mk]
theorem rls (v x : Value) : ReflectliteValue.set #[v, x] = (do
    let (some (dst, a, fl), some (src, b, _)) := (← ReflectliteValue.parts v, ← ReflectliteValue.parts x)
      | unsupported (.noEntry "extern/(internal/reflectlite.Value).Set.zeroValue")
    if fl / ReflectliteValue.flagAddr % 2 == 0 then unsupported (.noEntry "extern/(internal/reflectlite.Value).Set.unaddressable")
    let val ← loadVar src b
    if ← Rtype.directlyAssignable dst src then storeVar dst a val
    else if ← Rtype.implements dst src then
      if (← Rtype.kind src) == 20 then
        match val with
        | .nilIface => unsupported (.noEntry "extern/reflectlite: a nil value of one interface type handed on as a value of another")
        | _ => storeVar dst a val
      else storeVar dst a (.iface src val)
    else panicString ("reflectlite.Set: value of type " ++ (← Rtype.spelt src) ++ " is not assignable to type " ++ (← Rtype.spelt dst))
    pure (.tuple #[])) := rfl
theorem rx_partsEa (a : Addr) (w : World) : (ReflectliteValue.parts (.agg #[.pointer (some ⟨1, 59, none⟩), .pointer (some a), .int .u64 386])).run Tryd.prog w = .ok (some (59, a, 386)) w := by kernel_rfl
theorem rx_partsE (a : Addr) (w : World) : (ReflectliteValue.parts (.agg #[.pointer (some ⟨1, 59, none⟩), .pointer (some a), .int .u64 130])).run Tryd.prog w = .ok (some (59, a, 130)) w := by kernel_rfl
theorem rx_direct (w : World) : (Rtype.directlyAssignable 59 59).run Tryd.prog w = .ok true w := by kernel_rfl
theorem rx_set (ta b : Addr) (n : Int) (old : Value) (W : World) (hb : W.cell? b = some (.int .i64 n)) (ht : W.cell? ta = some old) (hf : W.frozen? ta = false) :
    (ReflectliteValue.set #[.agg #[.pointer (some ⟨1, 59, none⟩), .pointer (some ta), .int .u64 386], .agg #[.pointer (some ⟨1, 59, none⟩), .pointer (some b), .int .u64 130]]).run Tryd.prog W
      = .ok (.tuple #[]) (W.setCell ta (.int .i64 n)) := by
  rw [rls]
  simp only [Sem.run_bind, rx_partsEa, rx_partsE, Result.andThen]
  simp [ReflectliteValue.flagAddr, loadVar, isAgg, underlying, Tryd.underlying59, hb, Result.andThen, rx_direct, storeVar, Value.cells, storeCells, Addr.add]
  rw [run_store Tryd.prog W ta _ _ (by rfl)]
  simp [ht, hf]
theorem rx_noAs (v : Value) (xT : TypeId) (w : World) : (Instr.typeAssert (.iface 159 v) xT 108 true).run Tryd.prog w = .ok (.tuple #[.nilIface, .bool false]) w := run_typeAssert_lacksB Tryd.underlying108 (by kernel_rfl) (by kernel_rfl) v xT w
theorem rx_unwrap (v : Value) (xT : TypeId) (w : World) : (Instr.typeAssert (.iface 159 v) xT 111 true).run Tryd.prog w = .ok (.tuple #[.iface 159 v, .bool true]) w := run_typeAssert_hasB Tryd.underlying111 (by kernel_rfl) v xT w
theorem rx_mKind (h : Value) (w : World) : (Go.method 291 103 (.agg #[h]) "Kind").run Tryd.prog w = .ok (96, h) w := by kernel_rfl
theorem rx_mElem (h : Value) (w : World) : (Go.method 291 103 (.agg #[h]) "Elem").run Tryd.prog w = .ok (107, .agg #[h]) w := by kernel_rfl
theorem rx_mImplements (h : Value) (w : World) : (Go.method 291 103 (.agg #[h]) "Implements").run Tryd.prog w = .ok (108, .agg #[h]) w := by kernel_rfl
theorem rx_mAssignableTo (h : Value) (w : World) : (Go.method 291 103 (.agg #[h]) "AssignableTo").run Tryd.prog w = .ok (105, .agg #[h]) w := by kernel_rfl
theorem rx_mUnwrap (p : Addr) (w : World) : (Go.method 291 159 (.pointer (some p)) "Unwrap").run Tryd.prog w = .ok (116, .pointer (some p)) w := by kernel_rfl
set_option maxHeartbeats 4000000 in
set_option maxRecDepth 100000 in
/-- errors.as at an Errno -/
theorem as_errno (n : Int) (tg : Value) (a t : Addr) (old : Value) (w : World) (ha : w.cell? a = some (.pointer (some t))) (ht : w.cell? t = some old) (hf : w.frozen? t = false) :
    Calls Tryd.prog 34 #[.iface 59 (.int .i64 n), tg, .agg #[.pointer (some ⟨1, 64, none⟩), .pointer (some a), .int .u64 150], .iface 103 (.agg #[.pointer (some ⟨1, 59, none⟩)])] w fun e w' =>
      e = .returned (.bool true) ∧ w' = ((w.alloc (.cells #[.pointer (some ⟨1, 64, none⟩), .pointer (some a), .int .u64 150] 82)).alloc (.cells #[.int .i64 n] 59)).setCell t (.int .i64 n) := by
  have h44 := @run_callFunc_extern Tryd.prog 44 _ ReflectliteType.typeOf Tryd.func44 (by kernel_rfl) (by kernel_rfl) (by kernel_rfl) (by kernel_rfl)
  have h105 := @run_callFunc_extern Tryd.prog 105 _ (ReflectliteType.relation "AssignableTo" ReflectliteType.assignableTo) Tryd.func105 (by kernel_rfl) (by kernel_rfl) (by kernel_rfl) (by kernel_rfl)
  have h31 := @run_callFunc_extern Tryd.prog 31 _ (fun args => ReflectliteValue.unpack (args.getD 0 (.tuple #[]))) Tryd.func31 (by kernel_rfl) (by kernel_rfl) (by kernel_rfl) (by kernel_rfl)
  have h45 := @run_callFunc_extern Tryd.prog 45 _ (ReflectliteValue.method (ReflectliteValue.valueError "reflectlite.Value.Elem" 0) ReflectliteValue.elem) Tryd.func45 (by kernel_rfl) (by kernel_rfl) (by kernel_rfl) (by kernel_rfl)
  have h46 := @run_callFunc_extern Tryd.prog 46 _ ReflectliteValue.set Tryd.func46 (by kernel_rfl) (by kernel_rfl) (by kernel_rfl) (by kernel_rfl)
  have m1 := rx_mAssignableTo
  have hlt : a.block < w.heap.size := by
    rcases Nat.lt_or_ge a.block w.heap.size with h | h
    · exact h
    · simp [World.cell?, Array.getElem?_eq_none h] at ha
  have htl : t.block < w.heap.size := by
    rcases Nat.lt_or_ge t.block w.heap.size with h | h
    · exact h
    · simp [World.cell?, Array.getElem?_eq_none h] at ht
  have el := rx_elemV a t (w.alloc (.cells #[.pointer (some ⟨1, 64, none⟩), .pointer (some a), .int .u64 150] 82)) (by rw [World.cell?_alloc_lt _ _ a hlt]; exact ha)
  have st := rx_set t ⟨w.heap.size + 1, 0, none⟩ n old ((w.alloc (.cells #[.pointer (some ⟨1, 64, none⟩), .pointer (some a), .int .u64 150] 82)).alloc (.cells #[.int .i64 n] 59))
    (by rw [World.cell?_alloc_at _ _ _ _ (by simp)]; rfl)
    (by rw [World.cell?_alloc_lt _ _ t (by simp; omega), World.cell?_alloc_lt _ _ t htl]; exact ht)
    (by rw [World.frozen?_alloc_old _ _ t (by simp; omega), World.frozen?_alloc_old _ _ t (by simp; omega)]; exact hf)
  have f1 := rx_typeOfE
  have f2 := rx_assignE
  have f3 := rx_valueOfE
  go_enter Tryd.func34, Tryd.ntmps34
  go_wp2
  refine wp_loop_rounds 1 ?_
  rw [rounds_succ]
  go_wp2
  go_ret
  exact ⟨rfl, rfl⟩
theorem unwrap_any (g : Nat) (at_ er : Value) (w : World) (hb : Blk w g 161 #[at_, er]) :
    Calls Tryd.prog 116 #[.pointer (some ⟨g, 0, none⟩)] w fun e w' => e = .returned er ∧ w' = w := by
  have h1 := hb.cell 1
  go_enter Tryd.func116, Tryd.ntmps116
  go_wp2
  go_ret
  exact ⟨rfl, rfl⟩
set_option maxHeartbeats 4000000 in
set_option maxRecDepth 100000 in
/-- errors.as at a Fault that holds an Errno -/
theorem as_fault (n : Int) (tg : Value) (g : Nat) (at_ : Value) (a t : Addr) (old : Value) (w : World) (hg : Blk w g 161 #[at_, .iface 59 (.int .i64 n)]) (ha : w.cell? a = some (.pointer (some t))) (ht : w.cell? t = some old) (hf : w.frozen? t = false) :
    Calls Tryd.prog 34 #[.iface 159 (.pointer (some ⟨g, 0, none⟩)), tg, .agg #[.pointer (some ⟨1, 64, none⟩), .pointer (some a), .int .u64 150], .iface 103 (.agg #[.pointer (some ⟨1, 59, none⟩)])] w fun e w' =>
      e = .returned (.bool true) ∧ w' = ((w.alloc (.cells #[.pointer (some ⟨1, 64, none⟩), .pointer (some a), .int .u64 150] 82)).alloc (.cells #[.int .i64 n] 59)).setCell t (.int .i64 n) := by
  have h44 := @run_callFunc_extern Tryd.prog 44 _ ReflectliteType.typeOf Tryd.func44 (by kernel_rfl) (by kernel_rfl) (by kernel_rfl) (by kernel_rfl)
  have h105 := @run_callFunc_extern Tryd.prog 105 _ (ReflectliteType.relation "AssignableTo" ReflectliteType.assignableTo) Tryd.func105 (by kernel_rfl) (by kernel_rfl) (by kernel_rfl) (by kernel_rfl)
  have h31 := @run_callFunc_extern Tryd.prog 31 _ (fun args => ReflectliteValue.unpack (args.getD 0 (.tuple #[]))) Tryd.func31 (by kernel_rfl) (by kernel_rfl) (by kernel_rfl) (by kernel_rfl)
  have h45 := @run_callFunc_extern Tryd.prog 45 _ (ReflectliteValue.method (ReflectliteValue.valueError "reflectlite.Value.Elem" 0) ReflectliteValue.elem) Tryd.func45 (by kernel_rfl) (by kernel_rfl) (by kernel_rfl) (by kernel_rfl)
  have h46 := @run_callFunc_extern Tryd.prog 46 _ ReflectliteValue.set Tryd.func46 (by kernel_rfl) (by kernel_rfl) (by kernel_rfl) (by kernel_rfl)
  have m1 := rx_mAssignableTo
  have m2 := rx_mUnwrap
  have n1 := rx_noAs
  have n2 := rx_unwrap
  have hlt : a.block < w.heap.size := by
    rcases Nat.lt_or_ge a.block w.heap.size with h | h
    · exact h
    · simp [World.cell?, Array.getElem?_eq_none h] at ha
  have htl : t.block < w.heap.size := by
    rcases Nat.lt_or_ge t.block w.heap.size with h | h
    · exact h
    · simp [World.cell?, Array.getElem?_eq_none h] at ht
  have el := rx_elemV a t (w.alloc (.cells #[.pointer (some ⟨1, 64, none⟩), .pointer (some a), .int .u64 150] 82)) (by rw [World.cell?_alloc_lt _ _ a hlt]; exact ha)
  have st := rx_set t ⟨w.heap.size + 1, 0, none⟩ n old ((w.alloc (.cells #[.pointer (some ⟨1, 64, none⟩), .pointer (some a), .int .u64 150] 82)).alloc (.cells #[.int .i64 n] 59))
    (by rw [World.cell?_alloc_at _ _ _ _ (by simp)]; rfl)
    (by rw [World.cell?_alloc_lt _ _ t (by simp; omega), World.cell?_alloc_lt _ _ t htl]; exact ht)
    (by rw [World.frozen?_alloc_old _ _ t (by simp; omega), World.frozen?_alloc_old _ _ t (by simp; omega)]; exact hf)
  have f1 := rx_typeOfE
  have f2 := rx_assignE
  have f3 := rx_valueOfE
  have f4 := rx_typeOfF
  have f5 := rx_assignF
  go_enter Tryd.func34, Tryd.ntmps34
  go_wp2
  refine wp_loop_rounds 2 ?_
  rw [rounds_succ]
  go_wp2_with (fail)
  refine (unwrap_any g _ _ _ (hg.alloc _)).mono ?_
  rintro e w' ⟨rfl, rfl⟩
  go_wp2
  rw [rounds_succ]
  go_wp2
  go_ret
  exact ⟨rfl, rfl⟩
/-- what an error's value is: an Errno, or a Fault that holds one -/
inductive ErrIs (w : World) (n : Int) : Value → Prop
  | errno : ErrIs w n (.iface 59 (.int .i64 n))
  | fault (g : Nat) (at_ : Value) (hg : Blk w g 161 #[at_, .iface 59 (.int .i64 n)]) : ErrIs w n (.iface 159 (.pointer (some ⟨g, 0, none⟩)))
theorem ErrIs.alloc {w : World} {n : Int} {v : Value} (h : ErrIs w n v) (o : Obj) : ErrIs (w.alloc o) n v := by
  cases h with
  | errno => exact .errno
  | fault g at_ hg => exact .fault g at_ (hg.alloc o)
theorem ErrIs.only {w w' : World} {n : Int} {v : Value} {t : Nat} (h : ErrIs w n v) (hb : w.grownBy w' (some t)) (ht : ∀ g, v = .iface 159 (.pointer (some ⟨g, 0, none⟩)) → g ≠ t) : ErrIs w' n v := by
  cases h with
  | errno => exact .errno
  | fault g at_ hg => exact .fault g at_ (hg.grown hb (by rintro e; injection e with e; exact ht g rfl e))
theorem ErrIs.below {w w' : World} {n : Int} {v : Value} (h : ErrIs w n v) (hb : Below w.heap.size w w') : ErrIs w' n v := by
  cases h with
  | errno => exact .errno
  | fault g at_ hg => exact .fault g at_ (hg.below hb hg.lt)
theorem as_any {n : Int} {v : Value} (tg : Value) (a t : Addr) (old : Value) (w : World) (hv : ErrIs w n v) (ha : w.cell? a = some (.pointer (some t))) (ht : w.cell? t = some old) (hf : w.frozen? t = false) :
    Calls Tryd.prog 34 #[v, tg, .agg #[.pointer (some ⟨1, 64, none⟩), .pointer (some a), .int .u64 150], .iface 103 (.agg #[.pointer (some ⟨1, 59, none⟩)])] w fun e w' =>
      e = .returned (.bool true) ∧ w' = ((w.alloc (.cells #[.pointer (some ⟨1, 64, none⟩), .pointer (some a), .int .u64 150] 82)).alloc (.cells #[.int .i64 n] 59)).setCell t (.int .i64 n) := by
  cases hv with
  | errno => exact as_errno n tg a t old w ha ht hf
  | fault g at_ hg => exact as_fault n tg g at_ a t old w hg ha ht hf
/-- the handle that errors.As reads -/
def ErrVar (w : World) : Prop := w.cell? ⟨0, 0, none⟩ = some (.iface 103 (.agg #[.pointer (some ⟨1, 29, none⟩)]))
theorem ErrVar.lt {w : World} (h : ErrVar w) : 0 < w.heap.size := by
  rcases Nat.eq_zero_or_pos w.heap.size with h0 | h1
  · unfold ErrVar at h; simp [World.cell?, h0] at h
  · exact h1
theorem ErrVar.alloc {w : World} (h : ErrVar w) (o : Obj) : ErrVar (w.alloc o) := (World.cell?_alloc_lt _ _ ⟨0, 0, none⟩ h.lt).trans h
theorem ErrVar.below {w w' : World} (h : ErrVar w) (hb : Below w.heap.size w w') : ErrVar w' := (World.cell?_of_block (w := w) (hb.block 0 h.lt)).trans h
theorem ErrVar.grown {w w' : World} {t : Nat} (h : ErrVar w) (hb : w.grownBy w' (some t)) (ht : t ≠ 0) : ErrVar w' := only_cell hb (by omega) h
set_option maxHeartbeats 4000000 in
set_option maxRecDepth 100000 in
theorem As_any {n : Int} {v : Value} (t : Addr) (old : Value) (w : World) (hv : ErrIs w n v) (hvar : ErrVar w) (ht : w.cell? t = some old) (hf : w.frozen? t = false) :
    Calls Tryd.prog 24 #[v, .iface 64 (.pointer (some t))] w fun e w' =>
      e = .returned (.bool true) ∧ ∃ w1, Below w.heap.size w w1 ∧ w' = w1.setCell t (.int .i64 n) := by
  have h31 := @run_callFunc_extern Tryd.prog 31 _ (fun args => ReflectliteValue.unpack (args.getD 0 (.tuple #[]))) Tryd.func31 (by kernel_rfl) (by kernel_rfl) (by kernel_rfl) (by kernel_rfl)
  have h32 := @run_callFunc_extern Tryd.prog 32 _ (ReflectliteValue.methodAny (ReflectliteValue.valueError "reflectlite.Value.Type" 0) (fun t _ _ _ => ReflectliteType.toType t)) Tryd.func32 (by kernel_rfl) (by kernel_rfl) (by kernel_rfl) (by kernel_rfl)
  have h33 := @run_callFunc_extern Tryd.prog 33 _ (ReflectliteValue.method (ReflectliteValue.valueError "reflectlite.Value.IsNil" 0) ReflectliteValue.isNil) Tryd.func33 (by kernel_rfl) (by kernel_rfl) (by kernel_rfl) (by kernel_rfl)
  have h96 := @run_callFunc_extern Tryd.prog 96 _ (ReflectliteType.abiMethod fun t => do pure (.int .u8 (← Rtype.kind t))) Tryd.func96 (by kernel_rfl) (by kernel_rfl) (by kernel_rfl) (by kernel_rfl)
  have h107 := @run_callFunc_extern Tryd.prog 107 _ (ReflectliteType.method ReflectliteType.elem) Tryd.func107 (by kernel_rfl) (by kernel_rfl) (by kernel_rfl) (by kernel_rfl)
  have h108 := @run_callFunc_extern Tryd.prog 108 _ (ReflectliteType.relation "Implements" ReflectliteType.implements_) Tryd.func108 (by kernel_rfl) (by kernel_rfl) (by kernel_rfl) (by kernel_rfl)
  have f1 := rx_valueOfP
  have f2 := rx_typeP
  have f3 := rx_mKind
  have f4 := rx_mElem
  have f5 := rx_mImplements
  have f6 := rx_kindP
  have f7 := rx_kindE
  have f8 := rx_elem
  have f9 := rx_implements
  have htl : t.block < w.heap.size := by
    rcases Nat.lt_or_ge t.block w.heap.size with h | h
    · exact h
    · simp [World.cell?, Array.getElem?_eq_none h] at ht
  have hg2 : ((w.alloc (.cells #[.pointer (some t)] 64)).alloc (.cells #[.pointer (some ⟨1, 64, none⟩), .pointer (some ⟨w.heap.size, 0, none⟩), .int .u64 150] 82)).cell? ⟨0, 0, none⟩ = some (.iface 103 (.agg #[.pointer (some ⟨1, 29, none⟩)])) := (hvar.alloc _).alloc _
  have n8 := rx_isNil ⟨w.heap.size, 0, none⟩ t ((w.alloc (.cells #[.pointer (some t)] 64)).alloc (.cells #[.pointer (some ⟨1, 64, none⟩), .pointer (some ⟨w.heap.size, 0, none⟩), .int .u64 150] 82)) (by simp)
  have hv2 := (hv.alloc (.cells #[.pointer (some t)] 64)).alloc (.cells #[.pointer (some ⟨1, 64, none⟩), .pointer (some ⟨w.heap.size, 0, none⟩), .int .u64 150] 82)
  obtain ⟨T, u, rfl⟩ : ∃ T u, v = .iface T u := by cases hv <;> exact ⟨_, _, rfl⟩
  go_enter Tryd.func24, Tryd.ntmps24
  go_wp2_with (fail)
  refine (as_any (n := n) _ ⟨w.heap.size, 0, none⟩ t old _ hv2 ?_ ?_ ?_).mono ?_
  · rw [World.cell?_alloc_lt _ _ ⟨w.heap.size, 0, none⟩ (by simp)]; simp
  · rw [World.cell?_alloc_lt _ _ t (by simp; omega), World.cell?_alloc_lt _ _ t htl]; exact ht
  · rw [World.frozen?_alloc_old _ _ t (by simp; omega), World.frozen?_alloc_old _ _ t (by simp; omega)]; exact hf
  rintro e w' ⟨rfl, rfl⟩
  go_wp2
  go_ret
  exact ⟨rfl, _, ((((Below.refl _ _).alloc (Nat.le_refl _) _).alloc (by simp) _).alloc (by simp; omega) _).alloc (by simp; omega) _, rfl⟩
set_option maxHeartbeats 4000000 in
set_option maxRecDepth 100000 in
theorem Code_any {n : Int} {v : Value} (w : World) (hv : ErrIs w n v) (hvar : ErrVar w) :
    Calls Tryd.prog 12 #[v] w fun e w' => e = .returned (.int .i64 n) ∧ Below w.heap.size w w' := by
  have hv2 := hv.alloc (.cells #[.int .i64 0] 59)
  have hg2 := hvar.alloc (.cells #[.int .i64 0] 59)
  obtain ⟨T, u, rfl⟩ : ∃ T u, v = .iface T u := by cases hv <;> exact ⟨_, _, rfl⟩
  go_enter Tryd.func12, Tryd.ntmps12
  go_wp2_with (fail)
  refine (As_any (n := n) ⟨w.heap.size, 0, none⟩ (.int .i64 0) _ hv2 hg2 (by simp) (by simp)).mono ?_
  rintro e w' ⟨rfl, w1, hb, rfl⟩
  have hs := hb.size
  have hc : (w1.setCell ⟨w.heap.size, 0, none⟩ (.int .i64 n)).cell? ⟨w.heap.size, 0, none⟩ = some (.int .i64 n) := by
    have h0 : Blk (w.alloc (.cells #[.int .i64 0] 59)) w.heap.size 59 #[.int .i64 0] := Blk.new _ _ _
    have h1 := (h0.below hb h0.lt).set_ 0 (.int .i64 n)
    simpa using h1.cell 0
  go_wp2
  go_ret
  exact ⟨rfl, (((Below.refl _ _).alloc (Nat.le_refl _) _).trans (hb.mono (by simp))).setCell (Nat.le_refl _) _⟩
theorem Code_nil (w : World) : Calls Tryd.prog 12 #[.nilIface] w fun e w' => e = .returned (.int .i64 0) ∧ Below w.heap.size w w' := by
  go_enter Tryd.func12, Tryd.ntmps12
  go_wp2
  go_ret
  exact ⟨rfl, (Below.refl _ _).alloc (Nat.le_refl _) _⟩
end Go.Proofs.YtbmhmohpnhckgaaDoor
