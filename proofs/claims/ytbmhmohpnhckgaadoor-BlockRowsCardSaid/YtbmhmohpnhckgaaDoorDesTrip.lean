import Derived.Test.YtbmhmohpnhckgaaDoorDesMath
import Derived.Test.YtbmhmohpnhckgaaDoorAesMath
/- plain laws of TDES: what is enciphered and deciphered is what it was -/
namespace Lb
/-- the three parts, one behind the other -/
def partF (n : Nat) (K : St) : St := fun i => if i < n then K i else if n = 16 then K (i - 16) else 0
def keyF (n : Nat) (K : St) (j : Nat) : St := fun i => partF n K (8 * j + i)
def tripF (n : Nat) (K : St) (b : St) (back : Bool) : St :=
  if n = 8 then desF (keyF n K 0) b back
  else desF (keyF n K (if back then 0 else 2)) (desF (keyF n K 1) (desF (keyF n K (if back then 2 else 0)) b back) (!back)) back
theorem tripF_back (n : Nat) (K b : St) (back : Bool) (i : Nat) (hi : i < 8) : tripF n K (tripF n K b back) (!back) i = b i := by
  unfold tripF
  by_cases h : n = 8
  · rw [if_pos h, if_pos h]
    exact desF_back _ _ _ i hi
  · rw [if_neg h, if_neg h]
    have e1 : (if (!back) = true then (2 : Nat) else 0) = (if back = true then 0 else 2) := by cases back <;> rfl
    have e2 : (if (!back) = true then (0 : Nat) else 2) = (if back = true then 2 else 0) := by cases back <;> rfl
    rw [e1, e2, Bool.not_not]
    generalize keyF n K (if back = true then 0 else 2) = z
    generalize keyF n K (if back = true then 2 else 0) = a
    generalize keyF n K 1 = m
    have s1 : desF z (desF z (desF m (desF a b back) (!back)) back) (!back) = desF z (desF z (desF m (desF a b back) (!back)) back) (!back) := rfl
    rw [desF_congr m _ (desF m (desF a b back) (!back)) back (fun j hj => desF_back z _ back j hj)]
    have s2 : ∀ j, j < 8 → desF m (desF m (desF a b back) (!back)) back j = desF a b back j := fun j hj => by
      have := desF_back m (desF a b back) (!back) j hj
      rwa [Bool.not_not] at this
    rw [desF_congr a _ (desF a b back) (!back) s2]
    exact desF_back a b back i hi
theorem tripF_congr (n : Nat) (K b c : St) (back : Bool) (h : ∀ i, i < 8 → b i = c i) : tripF n K b back = tripF n K c back := by
  unfold tripF
  by_cases hn : n = 8
  · rw [if_pos hn, if_pos hn, desF_congr _ b c back h]
  · rw [if_neg hn, if_neg hn, desF_congr _ b c back h]
/-- on lists -/
def tripL (key x : List UInt8) (back : Bool) : List UInt8 := tab 8 (tripF key.length (stOf key) (stOf x) back)
theorem tripL_length (key x : List UInt8) (back : Bool) : (tripL key x back).length = 8 := tab_length _ _
theorem stOf_tab8 (F : St) (i : Nat) (hi : i < 8) : stOf (tab 8 F) i = F i := by
  unfold stOf
  rw [List.getD_eq_getElem?_getD, tab_get _ _ _ hi]; rfl
theorem tripL_back (key x : List UInt8) (back : Bool) (hx : x.length = 8) : tripL key (tripL key x back) (!back) = x := by
  unfold tripL
  rw [tripF_congr _ _ _ _ _ (fun i hi => stOf_tab8 _ i hi), tab_congr 8 _ (stOf x) (fun i hi => tripF_back _ _ _ _ i hi)]
  exact (tab_of x 8 hx).symm
end Lb
