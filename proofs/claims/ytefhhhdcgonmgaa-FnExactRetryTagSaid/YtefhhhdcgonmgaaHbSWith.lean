import Derived.Test.YtefhhhdcgonmgaaHbLow
import Derived.Test.YtefhhhdcgonmgaaHbSMix
import Derived.Test.YtefhhhdcgonmgaaHbEnc
import Derived.Deep.LoopGhost
namespace Go.Proofs.Ytefhhhdcgonmgaa.Hb
open Go.RowKit
set_option linter.unusedVariables false

theorem list_eq_getD {n : Nat} {xs ys : List Int} (hx : xs.length = n) (hy : ys.length = n) (h : ∀ i, i < n → xs.getD i 0 = ys.getD i 0) : xs = ys := by
  apply List.ext_getElem (by omega)
  intro i h1 h2
  have := h i (by omega)
  simpa [List.getD_eq_getElem?_getD, h1, h2] using this
theorem getD_set (xs : List Int) (k i : Nat) (v : Int) (hk : k < xs.length) : (xs.set k v).getD i 0 = if k = i then v else xs.getD i 0 := by
  rw [List.getD_eq_getElem?_getD, List.getElem?_set]
  by_cases e : k = i
  · subst e
    simp [hk]
  · simp [e, List.getD_eq_getElem?_getD]
theorem addK_get (K xs : List Int) (r : Nat) (k : Nat) (hk : k ≤ xs.length) : ∀ i, (addK K r xs k).getD i 0 = if i < k then bits .xor .u8 (xs.getD i 0) (K.getD (16 * r + i) 0) else xs.getD i 0 := by
  induction k with
  | zero => intro i; simp [addK]
  | succ k ih =>
    intro i
    rw [addK, getD_set _ _ _ _ (by rw [addK_length]; omega), ih (by omega), ih (by omega)]
    by_cases e : k = i
    · subst e
      simp
    · rw [if_neg e]
      by_cases h : i < k
      · rw [if_pos h, if_pos (by omega)]
      · rw [if_neg h, if_neg (by omega)]
theorem xorL_addK (K xs : List Int) (r : Nat) (hx : xs.length = 16) : xorL xs (K.drop (16 * r)) 16 = addK K r xs 16 := by
  refine list_eq_getD (n := 16) (fillTo_length _ _ _) (by rw [addK_length]; exact hx) fun i hi => ?_
  rw [xorL, fillTo_get 16 _ 16 (Nat.le_refl _) i hi, addK_get K xs r 16 (by omega), if_pos hi]
  simp [List.getD_eq_getElem?_getD, List.getElem?_drop]
theorem subTo_get (xs : List Int) (k : Nat) (hk : k ≤ xs.length) : ∀ i, (subTo xs k).getD i 0 = if i < k then sb (xs.getD i 0) else xs.getD i 0 := by
  induction k with
  | zero => intro i; simp [subTo]
  | succ k ih =>
    intro i
    rw [subTo, getD_set _ _ _ _ (by rw [subTo_length]; omega), ih (by omega), ih (by omega)]
    by_cases e : k = i
    · subst e
      simp
    · rw [if_neg e]
      by_cases h : i < k
      · rw [if_pos h, if_pos (by omega)]
      · rw [if_neg h, if_neg (by omega)]
theorem shTo_get (xs : List Int) (k : Nat) (hk : k ≤ xs.length) : ∀ i, (shTo xs k).getD i 0 = if i < k then xs.getD (shAt i) 0 else xs.getD i 0 := by
  induction k with
  | zero => intro i; simp [shTo]
  | succ k ih =>
    intro i
    rw [shTo, getD_set _ _ _ _ (by rw [shTo_length]; omega), ih (by omega)]
    by_cases e : k = i
    · subst e
      simp
    · rw [if_neg e]
      by_cases h : i < k
      · rw [if_pos h, if_pos (by omega)]
      · rw [if_neg h, if_neg (by omega)]
/-- A byte of a block that is put through the table and moved. -/
def subSh (xs : List Int) (i : Nat) : Int := sb (xs.getD (shAt i) 0)
theorem subSh_eq (xs : List Int) (hx : xs.length = 16) : fillTo 16 (subSh xs) 16 = shTo (subTo xs 16) 16 := by
  refine list_eq_getD (n := 16) (fillTo_length _ _ _) (by rw [shTo_length, subTo_length]; exact hx) fun i hi => ?_
  rw [fillTo_get 16 _ 16 (Nat.le_refl _) i hi, shTo_get _ 16 (by rw [subTo_length]; omega), if_pos hi, subTo_get _ 16 (by omega), if_pos (shAt_lt i), subSh]
def mixA (T : List Int) : Nat → List Int
  | 0 => []
  | c + 1 => mixA T c ++ mixL [2, 3, 1, 1] ((T.drop (4 * c)).take 4)
theorem mixA_eq (T : List Int) (hT : T.length = 16) : mixA T 4 = mixCols T 4 := by
  match T, hT with
  | [x0, x1, x2, x3, x4, x5, x6, x7, x8, x9, x10, x11, x12, x13, x14, x15], _ => rfl
theorem mixA_length (T : List Int) (c : Nat) : (mixA T c).length = 4 * c := by
  induction c with
  | zero => rfl
  | succ c ih => rw [mixA, List.length_append, ih]; simp [mixL]; omega
end Go.Proofs.Ytefhhhdcgonmgaa.Hb
