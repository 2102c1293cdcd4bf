/- a region that draws its order, whose first n operations are quiet in a class of worlds C, and whose last ones come in one forced order: the first n are walked once, in the text's order; what they leave is known in EVERY world of the class; the last ones are walked as a plain list -/
import Derived.StillTail
import Derived.Deep.Quiet
import Derived.Deep.QuietTactic
import Derived.BigQuiet
import Derived.Test.YtbmhmohpnhckgaaDoorHeld
namespace Go.Proofs.YtbmhmohpnhckgaaDoor
open Go
section
variable {P : Program} {ops : Array Oper} {md : Region.Mode} {C : World → Prop}
/-- n is still ahead: f operations of the head, whichever come, then L -/
def headQ (P : Program) (md : Region.Mode) (ops : Array Oper) (C : World → Prop) (n : Nat) (L : Array Bool → Act → Prop) : Nat → Array Bool → Act → Prop
  | 0, d, a => L d a
  | f + 1, d, a => Region.ready md ops d ≠ [] ∧ ∀ i, i ∈ Region.ready md ops d → i < n ∧ qOp P ops C i (fun b => headQ P md ops C n L f (d.setIfInBounds i true) b) a
theorem wpAny_headQ {n g : Nat} {L : Array Bool → Act → Prop} {Q : Exit → Act → World → Prop} (hL : ∀ d a w, C w → L d a → wpAny P md ops Q g d a w) (f : Nat) :
    ∀ d a w, C w → headQ P md ops C n L f d a → wpAny P md ops Q (f + g) d a w := by
  induction f with
  | zero => intro d a w hw h; rw [Nat.zero_add]; exact hL d a w hw h
  | succ f ih =>
    intro d a w hw h
    have e : f + 1 + g = (f + g) + 1 := by omega
    rw [e]
    exact ⟨fun h0 => absurd h0 h.1, fun i hi => wpOp_of_qOp hw (fun b w' hw' hb => ih _ b w' hw' hb) (h.2 i hi).2⟩
theorem headQ_first {n i : Nat} {o : Oper} {v : Value} {L : Array Bool → Act → Prop} (hi : ops[i]? = some o) (hsel : ∀ (j : Nat) (o : Oper) cs b, ops[j]? = some o → o.op ≠ .select cs b)
    (hs : Region.sinkB md ops n = true) (hc : Region.chainB md ops n = true) (hn : n < ops.size) (hin : i < n) (hend : ∀ d a, L d a → ∀ j, j ∈ Region.ready md ops d → n ≤ j) (f : Nat) :
    ∀ d a, HeadInv md ops n d → (∀ j oj, ops[j]? = some oj → j ≠ i → d.getD j true = false → (∀ e ∈ oj.after, Region.binds md e = true → e.on ≠ i) → o.apart ops oj = true) →
      i ∈ Region.ready md ops d → YieldsIn P ops C o v a → headQ P md ops C n L f (d.setIfInBounds i true) (a.put o.dst v) → headQ P md ops C n L (f + 1) d a := by
  have low : ∀ d, HeadInv md ops n d → d.getD i true = false → ∀ j, j ∈ Region.ready md ops d → j < n := by
    intro d inv hun j hj
    rcases Nat.lt_or_ge j n with h | h
    · exact h
    · exact absurd hj (tail_waits hs hc hn inv _ i rfl hin hun j h)
  induction f with
  | zero =>
    intro d a inv _ hr hy H
    have hun := (mem_ready.1 hr).1
    refine ⟨fun h => (by rw [h] at hr; cases hr), fun j hj => ⟨low d inv hun j hj, ?_⟩⟩
    by_cases e : j = i
    · rw [e]; exact hy.qOp hi H
    · have h1 := hend _ _ H j (ready_mono hj e)
      have h2 := low d inv hun j hj
      omega
  | succ f ih =>
    intro d a inv hfree hr hy H
    have hun := (mem_ready.1 hr).1
    refine ⟨fun h => (by rw [h] at hr; cases hr), fun j hj => ⟨low d inv hun j hj, ?_⟩⟩
    by_cases e : j = i
    · rw [e]; exact hy.qOp hi H
    · have hjn := low d inv hun j hj
      have h1 := (H.2 j (ready_mono hj e)).2
      obtain ⟨hjun, oj, hoj, hall⟩ := mem_ready.1 hj
      have hno : ∀ x ∈ oj.after, Region.binds md x = true → x.on ≠ i := by
        intro x hx hb hon
        have h2 := hall x hx hb
        rw [hon, getD_both hun] at h2
        cases h2
      have h2 := qOp_put hoj (hfree j oj hoj e hjun hno) (fun cs b => hsel i o cs b hi) (fun cs b => hsel j oj cs b hoj) hy h1
      refine qOp_mono (fun b hb => ih (d.setIfInBounds j true) b (inv.set hj hjn) ?_ (ready_mono hr (Ne.symm e)) hb.1 ?_) h2
      · intro k ok hk hki hunk hnok
        refine hfree k ok hk hki ?_ hnok
        by_cases ejk : j = k
        · rw [← ejk]; exact hjun
        · rw [getD_set_ne true ejk] at hunk; exact hunk
      · rw [Array.setIfInBounds_comm _ _ e]; exact hb.2
theorem headQ_lex {n g : Nat} {Lq : Act → Prop} (hsel : Region.noSelect ops = true) (hs : Region.sinkB md ops n = true) (hc : Region.chainB md ops n = true) (hn : n < ops.size) (l : List Oper) :
    ∀ (k : Nat) (d : Array Bool) (a : Act), (∀ j, j < l.length → l[j]? = ops[k + j]?) → k + l.length = n → HeadInv md ops n d → Region.lexHead md ops g l.length k d = true →
      wpQuiet P ops C Lq l a → headQ P md ops C n (fun d' a' => Region.seqB md ops g n d' = true ∧ Lq a') l.length d a := by
  induction l with
  | nil =>
    intro k d a _ hk _ hB h
    have e : k = n := by simpa using hk
    rw [e] at hB
    exact ⟨by simpa [Region.lexHead] using hB, h⟩
  | cons o l ih =>
    intro k d a hl hk inv hB h
    have h0 : ops[k]? = some o := by simpa using (hl 0 (by simp)).symm
    simp only [List.length_cons, Region.lexHead, Bool.and_eq_true] at hB
    simp only [List.length_cons] at hk
    have hr : k ∈ Region.ready md ops d := by simpa using hB.1.1
    have hq : qOp P ops C k (wpQuiet P ops C Lq l) a := by unfold qOp; simp only [h0]; exact h
    obtain ⟨v, hy, hK⟩ := yieldsIn_of_qOp h0 hq
    refine headQ_first h0 (Region.noSelect_spec hsel) hs hc hn (by omega) (fun d' a' hL => seqB_ready hL.1) l.length d a inv (Region.free_spec h0 hB.1.2) hr hy ?_
    refine ih (k + 1) _ _ (fun j hj => ?_) (by omega) (inv.set hr (by omega)) hB.2 hK
    have := hl (j + 1) (by simp; omega)
    simpa [Nat.add_assoc, Nat.add_comm 1 j] using this
theorem wp_region_quiet_tail {id : Nat} {Q : Exit → Act → World → Prop} {a : Act} {w : World} {l : List Oper} (n : Nat) (hm : P.follows .mixedOrders = true) (hB : Region.lexTailB .any l.toArray n = true)
    (hC : C { w with drawn := w.drawn + 1 }) (h : wpQuiet P l.toArray C (fun a' => ∀ w', C w' → wpList P l.toArray Q (l.drop n) a' w') (l.take n) a) : (Code.region id l.toArray true).wp P Q a w := by
  simp only [Region.lexTailB, Bool.and_eq_true, decide_eq_true_eq] at hB
  obtain ⟨⟨⟨⟨hsel, hn⟩, hs⟩, hc⟩, hlex⟩ := hB
  have hn' : n < l.length := by simpa using hn
  have htl : (l.take n).length = n := by simp; omega
  have hdl : (l.drop n).length = l.toArray.size - n := by simp
  have inv : HeadInv .any l.toArray n (Array.replicate l.toArray.size false) :=
    ⟨by simp, fun j oj _ hl => (by rw [getD_replicate_false] at hl; cases hl), fun t _ ht => getD_in (by simpa using ht) (getD_replicate_false _ _)⟩
  have H := headQ_lex (md := .any) (g := l.toArray.size - n) hsel hs hc hn (l.take n) 0 _ a (fun j hj => by
    have hj' : j < n := by rw [htl] at hj; exact hj
    simp [hj']) (by simpa using htl) inv (by rw [htl]; exact hlex) h
  refine wp_region_any hm ?_
  have key := wpAny_headQ (Q := Q) (g := l.toArray.size - n) (fun d b w' hw' hL => by
    have := wpAny_of_seq (md := .any) (Q' := Q) (l.drop n) n d b w' (fun j => by simp [List.getElem?_drop]) (by rw [hdl]; exact hL.1) (hL.2 w' hw')
    rwa [hdl] at this) _ _ _ _ hC H
  rw [htl, show n + (l.toArray.size - n) = l.toArray.size by omega] at key
  exact key
/-- the load of a whole array, quiet in a class of worlds that knows its block -/
theorem wpQuiet_load {Q : Act → Prop} {a : Act} {o : Oper} {rest : List Oper} (hw : Region.wanted o (yielded ops a.tmps) = true) (ty : TypeId) (x : Operand) (ho : o.op = .load ty x) (b : Nat) (hx : a.eval x = .pointer (some ⟨b, 0, none⟩)) (t : TypeId) (c : Array Value) (d : TypeDesc)
    (hC : ∀ w, C w → Blk w b t c) (hu : P.underlying ty = some d) (hd : d.isRow = true) (hi : (P.info? ty).map (·.size) = some c.size)
    (h : wpQuiet P ops C Q rest (a.put o.dst (.agg c))) : wpQuiet P ops C Q (o :: rest) a :=
  wpQuiet_step fun K hK => by
    rw [if_pos hw]
    refine ⟨_, fun w hw' => ?_, hK _ h⟩
    unfold Oper.quietAt execOp
    simp only [ho, hx, Sem.run_bind, load_at (hC w hw') hu hd hi, Result.andThen_ok, Sem.run_pure]
    exact ⟨rfl, rfl⟩
end
end Go.Proofs.YtbmhmohpnhckgaaDoor
