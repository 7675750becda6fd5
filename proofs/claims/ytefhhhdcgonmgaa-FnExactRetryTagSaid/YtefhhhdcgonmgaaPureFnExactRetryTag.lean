/-
The program's RetryTag returns what the reference's RetryTag returns, for every original id and every packet: the AES of both sides is one and the same plain function of bytes, so are the counting and the hash of blocks (whose product of 128 bits does not hang on the order of its factors), and the key and the nonce that the program reads from hex are the reference's constants. No condition.
-/
import Derived.Test.YtefhhhdcgonmgaaPFnExactRetryTagx
namespace Go.Proofs.Ytefhhhdcgonmgaa.Pure
open Go.RowKit Go.Proofs.Ytefhhhdcgonmgaa.Hb Go.Proofs.Ytefhhhdcgonmgaa.PFnExactRetryTag Go.Proofs.YtefhhhdcgonmgaaW.PrintWords Go.Proofs.YtefhhhdcgonmgaaW.PrintLast

/-! ### ReadHex -/
def hexTab : ByteArray := ⟨#[48, 49, 50, 51, 52, 53, 54, 55, 56, 57, 97, 98, 99, 100, 101, 102]⟩
def hx (c : Int) : Int := if 48 ≤ c ∧ c ≤ 57 then c - 48 else if 97 ≤ c ∧ c ≤ 102 then c - 87 else -1
theorem hx_all : ∀ c : Fin 256, Lib.indexByte [48, 49, 50, 51, 52, 53, 54, 55, 56, 57, 97, 98, 99, 100, 101, 102] (c.val : Int).toNat.toUInt8 = hx (c.val : Int) := by decide +kernel
theorem hx_index (c : Int) (h0 : 0 ≤ c) (h1 : c ≤ 255) : strings_IndexByte.f hexTab c = some (hx c) := by
  obtain ⟨n, rfl⟩ : ∃ n : Nat, c = n := ⟨c.toNat, by omega⟩
  rw [strings_IndexByte.f]
  exact congrArg some (hx_all ⟨n, by omega⟩)
theorem hx_range (c : Int) : -1 ≤ hx c ∧ hx c ≤ 15 := by
  unfold hx
  split
  · omega
  · split <;> omega
/-- The bytes of hex signs, where all are some. -/
def hexL : List Int → Option (List Int)
  | a :: b :: r => if hx a < 0 then none else if hx b < 0 then none else (hexL r).map (fun l => (16 * hx a + hx b) :: l)
  | _ => some []
theorem impl_ReadHex.ev_l (s : ByteArray) (hs : s.size ≤ 3000) (h2 : s.size % 2 = 0) : ∀ (d i k : Nat) (l : List Int), i + 2 * d = s.size → d < k → l.length + d ≤ 100000 →
    impl_ReadHex.l0 k s l (i : Int) = match hexL ((byt s).drop i) with
      | some x => some (strOfNums (l ++ x), true)
      | none => some (⟨#[]⟩, false) := by
  intro d
  induction d with
  | zero =>
    intro i k l hi hk hl
    obtain ⟨k, rfl⟩ : ∃ q, k = q + 1 := ⟨k - 1, by omega⟩
    rw [impl_ReadHex.l0, if_neg (by omega), List.drop_of_length_le (by rw [byt_length]; omega), hexL]
    · simp
    · simp
  | succ d ih =>
    intro i k l hi hk hl
    obtain ⟨k, rfl⟩ : ∃ q, k = q + 1 := ⟨k - 1, by omega⟩
    have hil : i < s.size := by omega
    have hil2 : i + 1 < s.size := by omega
    have hb : ∀ j, j < s.size → 0 ≤ (byt s).getD j 0 ∧ (byt s).getD j 0 ≤ 255 := fun j hj => byt_mem s _ (by
      rw [List.getD_eq_getElem?_getD, List.getElem?_eq_getElem (by simpa using hj)]
      exact List.getElem_mem _)
    have e1 : wrap64 ((i : Int) + 1) = ((i + 1 : Nat) : Int) := by unfold wrap64; omega
    have e2 : wrap64 ((i : Int) + 2) = ((i + 2 : Nat) : Int) := by unfold wrap64; omega
    have ha := hx_range ((byt s).getD i 0)
    have hc := hx_range ((byt s).getD (i + 1) 0)
    have hd : (byt s).drop i = (byt s).getD i 0 :: (byt s).getD (i + 1) 0 :: (byt s).drop (i + 2) := by
      rw [List.drop_eq_getElem_cons (by rw [byt_length]; omega), List.drop_eq_getElem_cons (by rw [byt_length]; omega)]
      simp [List.getD_eq_getElem?_getD, hil, hil2]
    have ht := hx_index ((byt s).getD i 0) (hb i hil).1 (hb i hil).2
    have ht2 := hx_index ((byt s).getD (i + 1) 0) (hb _ hil2).1 (hb _ hil2).2
    rw [hexTab] at ht ht2
    rw [impl_ReadHex.l0, if_pos (by omega), if_pos (by omega), bt_eq s i hil, ht, Option.bind_some, e1, if_pos (by omega), if_pos (by omega), bt_eq s (i + 1) hil2, ht2, Option.bind_some, hd, hexL]
    by_cases c1 : hx ((byt s).getD i 0) < 0
    · rw [if_pos c1, if_pos c1]
    rw [if_neg c1, if_neg c1]
    by_cases c2 : hx ((byt s).getD (i + 1) 0) < 0
    · rw [if_pos c2, if_pos c2]
    have e3 : wrap64 (wrap64 (16 * hx ((byt s).getD i 0)) + hx ((byt s).getD (i + 1) 0)) % 256 = 16 * hx ((byt s).getD i 0) + hx ((byt s).getD (i + 1) 0) := by unfold wrap64; omega
    rw [if_neg c2, if_neg c2, if_pos (by omega), e2, e3, ih (i + 2) k _ (by omega) (by omega) (by simp; omega)]
    cases hexL ((byt s).drop (i + 2)) with
    | none => rfl
    | some x => simp
theorem impl_ReadHex.ev (s : ByteArray) (hs : s.size ≤ 3000) (h2 : s.size % 2 = 0) (x : List Int) (hx : hexL (byt s) = some x) (k : Nat) (hk : s.size + 1 < k) : impl_ReadHex.f k s = some (strOfNums x, true) := by
  obtain ⟨k, rfl⟩ : ∃ q, k = q + 1 := ⟨k - 1, by omega⟩
  have h := impl_ReadHex.ev_l s hs h2 (s.size / 2) 0 k [] (by omega) (by omega) (by simp; omega)
  rw [List.drop_zero, hx] at h
  rw [impl_ReadHex.f, if_pos (by omega), impl_ReadHex.j0, if_neg (by simp; omega)]
  exact h
theorem hexKey : impl_ReadHex.f 100 ⟨#[98, 101, 48, 99, 54, 57, 48, 98, 57, 102, 54, 54, 53, 55, 53, 97, 49, 100, 55, 54, 54, 98, 53, 52, 101, 51, 54, 56, 99, 56, 52, 101]⟩ = some (rkey, true) :=
  impl_ReadHex.ev _ (by decide) (by decide) [190, 12, 105, 11, 159, 102, 87, 90, 29, 118, 107, 84, 227, 104, 200, 78] (by decide +kernel) 100 (by decide)
theorem hexNonce : impl_ReadHex.f 100 ⟨#[52, 54, 49, 53, 57, 57, 100, 51, 53, 100, 54, 51, 50, 98, 102, 50, 50, 51, 57, 56, 50, 53, 98, 98]⟩ = some (rnonce, true) :=
  impl_ReadHex.ev _ (by decide) (by decide) [70, 21, 153, 211, 93, 99, 43, 242, 35, 152, 37, 187] (by decide +kernel) 100 (by decide)

theorem seal_tag (a0 a1 : ByteArray) (h0 : a0.size ≤ 20) (h1 : a1.size ≤ 1000) :
    impl_SealText.f rkey rnonce (strOfNums (be 1 (a0.size : Int)) ++ a0 ++ a1) ⟨#[]⟩ = some (strOfNums (sealL (ks (byt rkey) 40).1 (byt rnonce) (be 1 (a0.size : Int) ++ byt a0 ++ byt a1) []), true) := by
  have hs : (strOfNums (be 1 (a0.size : Int)) ++ a0 ++ a1).size = 1 + a0.size + a1.size := by rw [ByteArray.size_append, ByteArray.size_append, strOfNums_size, be_length]
  have e1 : byt (strOfNums (be 1 (a0.size : Int)) ++ a0 ++ a1) = be 1 (a0.size : Int) ++ byt a0 ++ byt a1 := by rw [byt_append, byt_append, byt_nums _ (be_range _ _)]
  have e4 : byt (⟨#[]⟩ : ByteArray) = [] := rfl
  have e5 : (⟨#[]⟩ : ByteArray).size = 0 := rfl
  have e6 : rkey.size = 16 := rfl
  have e7 : rnonce.size = 12 := rfl
  rw [impl_SealText.f, if_pos ⟨e6, e7, by omega⟩, if_pos (by omega), e1, e4]
theorem iretry (a0 a1 : ByteArray) (h0 : a0.size ≤ 20) (h1 : a1.size ≤ 1000) (R : ByteArray) (hR : impl_SealText.f rkey rnonce (strOfNums (be 1 (a0.size : Int)) ++ a0 ++ a1) ⟨#[]⟩ = some (R, true)) :
    impl_RetryTag.f 101 a0 a1 = some (R, true) := by
  have e2 : impl_byteCounted.f a0 = some (strOfNums (be 1 (a0.size : Int)) ++ a0) := by rw [impl_byteCounted.f, if_pos (by omega)]
  have hs : (strOfNums (be 1 (a0.size : Int)) ++ a0).size = 1 + a0.size := by rw [ByteArray.size_append, strOfNums_size, be_length]
  rw [impl_RetryTag.f, if_neg (by omega), impl_RetryTag.j0, if_neg (by simp; omega), hexKey, Option.bind_some, hexNonce, Option.bind_some, e2, Option.bind_some, if_pos (by omega), hR]
  rfl
theorem iretry_no (a0 a1 : ByteArray) (h : ¬ (a0.size ≤ 20 ∧ a1.size ≤ 1000)) : impl_RetryTag.f 101 a0 a1 = some (⟨#[]⟩, false) := by
  rw [impl_RetryTag.f]
  by_cases c0 : (a0.size : Int) > 20
  · rw [if_pos c0, impl_RetryTag.j0, if_pos rfl]
  · have c1 : (a1.size : Int) > 1000 := by omega
    rw [if_neg c0, impl_RetryTag.j0, if_pos (decide_eq_true c1)]
theorem sretry_no (a0 a1 : ByteArray) (h : ¬ (a0.size ≤ 20 ∧ a1.size ≤ 1000)) : spec_RetryTag.f a0 a1 = some (⟨#[]⟩, false) := by
  rw [spec_RetryTag.f]
  by_cases c0 : (a0.size : Int) > 20
  · rw [if_pos c0]
  · rw [if_neg c0, if_pos (by omega)]
theorem same_two (k : Nat) (a0 a1 : ByteArray) (p : ByteArray × Bool) (h : spec_RetryTag.f a0 a1 = some p) (h2 : impl_RetryTag.f k a0 a1 = some p) : laws_FnExactRetryTag.f k a0 a1 = some true := by
  rw [laws_FnExactRetryTag.f, h, h2]
  simp
theorem FnExactRetryTag : laws_FnExactRetryTag.Pure := by
  intro a0 a1 h0 h1
  refine ⟨101, ?_⟩
  by_cases hc : a0.size ≤ 20 ∧ a1.size ≤ 1000
  · obtain ⟨R, hR⟩ : ∃ R, R = strOfNums (sealL (ks (byt rkey) 40).1 (byt rnonce) (be 1 (a0.size : Int) ++ byt a0 ++ byt a1) []) := ⟨_, rfl⟩
    refine same_two 101 a0 a1 (R, true) ?_ (iretry a0 a1 hc.1 hc.2 R (by rw [hR]; exact seal_tag a0 a1 hc.1 hc.2))
    rw [spec_RetryTag.f, if_neg (by omega), if_neg (by omega), spec_l10Tag.f, if_pos ⟨by omega, by omega⟩, ← hR]
    rfl
  · exact same_two 101 a0 a1 _ (sretry_no a0 a1 hc) (iretry_no a0 a1 hc)
end Go.Proofs.Ytefhhhdcgonmgaa.Pure
