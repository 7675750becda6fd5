-- Written by a program of this seat (hprint.py), by way of the kit's print. Lean checks it.
import Derived.Test.YtefhhhdcgonmgaaPFnExactRetryTagx0
import Derived.Test.YtefhhhdcgonmgaaPFnExactRetryTagx1
import Derived.Test.YtefhhhdcgonmgaaPFnExactRetryTagx2
import Derived.Test.YtefhhhdcgonmgaaHbSTag
namespace Go.Proofs.Ytefhhhdcgonmgaa.PFnExactRetryTag
open Go.RowKit Go.Proofs.YtefhhhdcgonmgaaW.PrintWords Go.Proofs.YtefhhhdcgonmgaaW.PrintLast Go.Proofs.YtefhhhdcgonmgaaW.PrintMore
attribute [local go_sem] max2_int min2_int max_two min_two max_three min_three max_four min_four   -- for this text's walks alone
set_option linter.unusedVariables false
set_option linter.unusedSimpArgs false

-- HAND 6
open Go.Proofs.Ytefhhhdcgonmgaa.Hb
/-! ### numbers and bytes: what the printed functions come to -/
theorem be_snoc (j : Nat) (x : Int) : be (j + 1) x = be j (x / 256) ++ [x % 256] := by
  rw [be, List.range_succ, List.map_append]
  congr 1
  · apply List.map_congr_left
    intro i hi
    have hi' := List.mem_range.1 hi
    rw [Int.ediv_ediv_of_nonneg (by omega), show 8 * (j + 1 - 1 - i) = 8 + 8 * (j - 1 - i) by omega, Int.pow_add]
    rfl
  · simp
theorem be_cons (j : Nat) (x : Int) : be (j + 1) x = (x / 2 ^ (8 * j) % 256) :: be j x := by
  apply List.ext_getElem
  · simp [be]
  · intro i h1 h2
    match i with
    | 0 => simp [be]
    | i + 1 =>
      simp only [be, List.length_map, List.length_range] at h1
      simp [be, show j - (i + 1) = j - 1 - i by omega]
theorem or_u64 (x b : Int) (h0 : 0 ≤ b) (h1 : b < 256) : Go.bits .or .u64 (IntKind.u64.wrap (x * 256)) (IntKind.u64.wrap b) = (256 * x + b) % 18446744073709551616 := by
  rw [show IntKind.u64.wrap b = b by rw [IntKind.wrap_u64]; omega, IntKind.wrap_u64,
    bits_join .u64 64 (by decide) (fun n a b => by rw [IntKind.wrap_u64]; omega) 8 _ _ (by omega) (by omega) (by omega) h0 (by omega) (by omega)]
  omega
theorem or_i64 (x b : Int) (h0 : 0 ≤ b) (h1 : b < 256) : Go.bits .or .i64 (wrap64 (x * 256)) (wrap64 b) = wrap64 (256 * x + b) := by
  have hb : wrap64 b = b := by unfold wrap64; omega
  rw [hb]
  have e : ∀ a : Int, BitVec.ofInt 64 (wrap64 a) = BitVec.ofInt 64 (a % 18446744073709551616) := by
    intro a
    apply BitVec.eq_of_toNat_eq
    rw [BitVec.toNat_ofInt, BitVec.toNat_ofInt]
    unfold wrap64
    congr 1
    omega
  have h := or_u64 x b h0 h1
  have hd : Go.bits .or .i64 (wrap64 (x * 256)) b = IntKind.i64.wrap ((BitVec.ofInt 64 (wrap64 (x * 256)) ||| BitVec.ofInt 64 b).toNat : Int) := rfl
  have hu : Go.bits .or .u64 (IntKind.u64.wrap (x * 256)) (IntKind.u64.wrap b) = IntKind.u64.wrap ((BitVec.ofInt 64 (IntKind.u64.wrap (x * 256)) ||| BitVec.ofInt 64 (IntKind.u64.wrap b)).toNat : Int) := rfl
  rw [hd, e]
  rw [hu, IntKind.wrap_u64, IntKind.wrap_u64, IntKind.wrap_u64, show b % 18446744073709551616 = b by omega] at h
  have hlt := (BitVec.ofInt 64 (x * 256 % 18446744073709551616) ||| BitVec.ofInt 64 b).isLt
  rw [IntKind.wrap_i64]
  unfold wrap64
  omega
theorem bt_eq (s : ByteArray) (i : Nat) (h : i < s.size) : bt s (i : Int) = (byt s).getD i 0 := by
  have : (bt s (i : Int)) = ((s[i]'h).toNat : Int) := by simp [bt, h]
  rw [this]
  simp [byt, List.getD_eq_getElem?_getD, h]
  rfl
theorem take_byt (s : ByteArray) (i : Nat) (h : i < s.size) : (byt s).take (i + 1) = (byt s).take i ++ [(byt s).getD i 0] := by
  rw [List.take_succ_eq_append_getElem (by simpa using h)]
  simp [List.getD_eq_getElem?_getD, h]
theorem w64 {x : Int} (h0 : -9223372036854775808 ≤ x) (h1 : x < 9223372036854775808) : wrap64 x = x := by unfold wrap64; omega
theorem p256 (n : Nat) (hn : n ≤ 8) : (256 : Int) ^ n ≤ 18446744073709551616 := (by decide : ∀ m : Fin 9, (256 : Int) ^ m.val ≤ 18446744073709551616) ⟨n, by omega⟩
theorem strOfNums_byt (s : ByteArray) : strOfNums (byt s) = s := by
  apply ByteArray.ext
  simp only [strOfNums, byt, List.map_map]
  have : (fun n : Int => UInt8.ofNat n.toNat) ∘ (fun b : UInt8 => (b.toNat : Int)) = id := by
    funext b
    simp
  rw [this, List.map_id]
theorem strOfNums_app (a b : List Int) : strOfNums (a ++ b) = strOfNums a ++ strOfNums b := by
  apply ByteArray.ext
  simp [strOfNums]
theorem full_pad (s : ByteArray) : strOfNums (full (byt s)) = s ++ strOfNums (List.replicate ((16 - s.size % 16) % 16) 0) := by
  rw [full, strOfNums_app, strOfNums_byt, byt_length]
theorem be8_wrap (x : Int) : be 8 (wrap64 x) = be 8 x := by
  apply List.map_congr_left
  intro i hi
  have hi' := List.mem_range.1 hi
  rcases (show i = 0 ∨ i = 1 ∨ i = 2 ∨ i = 3 ∨ i = 4 ∨ i = 5 ∨ i = 6 ∨ i = 7 by omega) with rfl | rfl | rfl | rfl | rfl | rfl | rfl | rfl <;> simp <;> unfold wrap64 <;> omega
theorem spec_l1Fixed.ev_l : ∀ (j k : Nat) (x : Int) (l : List Int), j ≤ 8 → l.length + j ≤ 100 → j < k → spec_l1Fixed.l0 k x l ((j : Int) - 1) = some (strOfNums (l ++ be j x)) := by
  intro j
  induction j with
  | zero =>
    intro k x l hj hl hk
    obtain ⟨k, rfl⟩ : ∃ q, k = q + 1 := ⟨k - 1, by omega⟩
    rw [spec_l1Fixed.l0, if_neg (by omega)]
    simp [be]
  | succ j ih =>
    intro k x l hj hl hk
    obtain ⟨k, rfl⟩ : ∃ q, k = q + 1 := ⟨k - 1, by omega⟩
    have e1 : ((j + 1 : Nat) : Int) - 1 = (j : Int) := by omega
    have e2 : IntKind.u64.wrap (wrap64 (8 * (j : Int))) = ((8 * j : Nat) : Int) := by
      rw [w64 (by omega) (by omega), IntKind.wrap_u64]
      omega
    rw [spec_l1Fixed.l0, e1, if_pos (by omega), e2, if_pos (by omega), if_pos (by omega), w64 (by omega) (by omega)]
    rw [ih k _ _ (by omega) (by simp; omega) (by omega), be_cons, List.append_assoc]
    congr 3
    show [shr .i64 x ((8 * j : Nat) : Int) % 256] ++ be j x = _
    rw [shr, show min (((8 * j : Nat) : Int)).toNat (IntKind.bits .i64) = 8 * j by simp [IntKind.bits]; omega]
    rfl
theorem spec_l1Fixed.ev (n : Int) (m : Nat) (hm : m ≤ 8) (k : Nat) (hk : m < k) : spec_l1Fixed.f k n (m : Int) = some (strOfNums (be m n)) := by
  rw [spec_l1Fixed.f, w64 (by omega) (by omega), spec_l1Fixed.ev_l m k n [] hm (by simp; omega) hk]
  rfl
theorem spec_l1Big.ev_l (s : ByteArray) (hs : s.size ≤ 1000000) : ∀ (d k i : Nat) (x : Int), i + d = s.size → d < k → x = wrap64 (nb ((byt s).take i)) → spec_l1Big.l0 k s x (i : Int) = some (wrap64 (nb (byt s))) := by
  intro d
  induction d with
  | zero =>
    intro k i x hi hk hx
    obtain ⟨k, rfl⟩ : ∃ q, k = q + 1 := ⟨k - 1, by omega⟩
    rw [spec_l1Big.l0, if_neg (by omega), hx, List.take_of_length_le (by rw [byt_length]; omega)]
  | succ d ih =>
    intro k i x hi hk hx
    obtain ⟨k, rfl⟩ : ∃ q, k = q + 1 := ⟨k - 1, by omega⟩
    have hil : i < s.size := by omega
    have hb := byt_mem s ((byt s).getD i 0) (by
      rw [List.getD_eq_getElem?_getD, List.getElem?_eq_getElem (by simpa using hil)]
      exact List.getElem_mem _)
    rw [spec_l1Big.l0, if_pos (by omega), if_pos (by omega), bt_eq s i hil, or_i64 _ _ hb.1 (by omega), w64 (x := (i : Int) + 1) (by omega) (by omega)]
    refine ih k (i + 1) _ (by omega) (by omega) ?_
    rw [take_byt s i hil, nb_snoc, hx]
    unfold wrap64
    omega
theorem spec_l1Big.ev (s : ByteArray) (hs : s.size ≤ 1000000) (k : Nat) (hk : s.size < k) : spec_l1Big.f k s = some (wrap64 (nb (byt s))) := by
  rw [spec_l1Big.f]
  exact spec_l1Big.ev_l s hs s.size k 0 0 (by omega) hk (by rw [List.take_zero, show nb [] = 0 from rfl]; unfold wrap64; omega)
/-! ### vectors as words -/
def hI (v : BitVec 128) : Int := ((hiV v).toNat : Int)
def lI (v : BitVec 128) : Int := ((loV v).toNat : Int)
theorem hI_lt (v : BitVec 128) : 0 ≤ hI v ∧ hI v < 18446744073709551616 := by
  have := (hiV v).isLt
  unfold hI
  omega
theorem lI_lt (v : BitVec 128) : 0 ≤ lI v ∧ lI v < 18446744073709551616 := by
  have := (loV v).isLt
  unfold lI
  omega
theorem hI_xor (u v : BitVec 128) : Go.bits .xor .u64 (hI u) (hI v) = hI (u ^^^ v) := by rw [hI, hI, hI, hiV_xor, xor64_v]
theorem lI_xor (u v : BitVec 128) : Go.bits .xor .u64 (lI u) (lI v) = lI (u ^^^ v) := by rw [lI, lI, lI, loV_xor, xor64_v]
theorem half64i (u : BitVec 64) : (u.toNat : Int) / (2 : Int) = ((u >>> 1).toNat : Int) := by
  rw [BitVec.toNat_ushiftRight, Nat.shiftRight_eq_div_pow]
  omega
theorem hI_X (v : BitVec 128) : hI (X128 v) = if Go.bits .and .u64 (lI v) 1 = 1 then Go.bits .xor .u64 (hI v / 2) 16212958658533785600 else hI v / 2 := by
  rw [hI, hI, lI, hiV_X]
  by_cases h : (loV v).getLsbD 0 = true
  · rw [if_pos ((low64_v _).2 h), if_pos h, half64i, e1_v, xor64_v]
  · rw [if_neg (fun e => h ((low64_v _).1 e)), if_neg h, half64i, BitVec.xor_zero]
theorem lI_X (v : BitVec 128) : lI (X128 v) = Go.bits .or .u64 (lI v / 2) (IntKind.u64.wrap (hI v * 9223372036854775808)) := by
  rw [lI, lI, hI, loV_X, half64i, up64_v, or64_v]
theorem hI_bit (v : BitVec 128) (n : Nat) (hn : n < 64) (y : Int) (hy : y = (n : Int)) : (Go.bits .and .u64 (shr .u64 (hI v) y) 1 = 1) ↔ v.getLsbD (64 + n) = true := by
  subst hy
  rw [shr, show min ((n : Int)).toNat (IntKind.bits .u64) = n by simp [IntKind.bits]; omega, hI, shr64_v, low64_v, BitVec.getLsbD_ushiftRight, Nat.add_zero, hiV_get v n hn]
theorem lI_bit (v : BitVec 128) (n : Nat) (hn : n < 64) (y : Int) (hy : y = (n : Int)) : (Go.bits .and .u64 (shr .u64 (lI v) y) 1 = 1) ↔ v.getLsbD n = true := by
  subst hy
  rw [shr, show min ((n : Int)).toNat (IntKind.bits .u64) = n by simp [IntKind.bits]; omega, lI, shr64_v, low64_v, BitVec.getLsbD_ushiftRight, Nat.add_zero, loV_get v n hn]
theorem hI_zero : hI 0#128 = 0 := by decide
theorem lI_zero : lI 0#128 = 0 := by decide
theorem hI_blk (xs : List Int) (h : ∀ x ∈ xs, 0 ≤ x ∧ x ≤ 255) : hI (blkV xs) = nb (xs.take 8) := by
  have h1 := nb_range (xs.take 8) (fun x hx => h x (List.mem_of_mem_take hx))
  have h2 := p256 (xs.take 8).length (by rw [List.length_take]; omega)
  rw [hI, blkV, hiV_join, BitVec.toNat_ofInt]
  omega
theorem lI_blk (xs : List Int) (h : ∀ x ∈ xs, 0 ≤ x ∧ x ≤ 255) (hl : xs.length ≤ 16) : lI (blkV xs) = nb (xs.drop 8) := by
  have h1 := nb_range (xs.drop 8) (fun x hx => h x (List.mem_of_mem_drop hx))
  have h2 := p256 (xs.drop 8).length (by rw [List.length_drop]; omega)
  rw [lI, blkV, loV_join, BitVec.toNat_ofInt]
  omega
theorem byt_take8 (s : ByteArray) : byt (s.extract 0 8) = (byt s).take 8 := by rw [byt_extract]; rfl
theorem byt_drop8 (s : ByteArray) : byt (s.extract 8 s.size) = (byt s).drop 8 := by rw [byt_extract, List.take_of_length_le (by simp)]
theorem byt_block (s : ByteArray) (i : Nat) : byt (s.extract (16 * i) (16 * i + 16)) = ((byt s).drop (16 * i)).take 16 := by
  rw [byt_extract, show 16 * i + 16 - 16 * i = 16 by omega]
theorem spec_l5Of.ev (s : ByteArray) (hs : s.size = 16) (k : Nat) (hk : 8 < k) : spec_l5Of.f k s = some (hI (blkV (byt s)), lI (blkV (byt s))) := by
  have h1 : (s.extract 0 8).size = 8 := size_extract _ _ _ (by omega)
  have h2 : (s.extract 8 s.size).size = 8 := by rw [size_extract _ _ _ (by omega)]; omega
  have w : ∀ x : Int, 0 ≤ x → x < 18446744073709551616 → IntKind.u64.wrap (wrap64 x) = x := by
    intro x h0 h1
    rw [IntKind.wrap_u64]
    unfold wrap64
    omega
  rw [spec_l5Of.f, if_pos (by omega), if_pos (by omega), spec_l1Big.ev _ (by omega) k (by omega), Option.bind_some, spec_l1Big.ev _ (by omega) k (by omega), Option.bind_some, byt_take8, byt_drop8,
    ← hI_blk _ (byt_mem s), ← lI_blk _ (byt_mem s) (by rw [byt_length]; omega), w _ (hI_lt _).1 (hI_lt _).2, w _ (lI_lt _).1 (lI_lt _).2]
theorem spec_l5Mul.ev_l : ∀ (d i k : Nat) (A B O : BitVec 128), i + d = 128 → 2 * d < k →
    spec_l5Mul.l0 k (i : Int) (hI A) (lI A) (hI B) (lI B) (hI O) (lI O) = some (hI (O ^^^ pol X128 (downs A d) B), lI (O ^^^ pol X128 (downs A d) B)) := by
  intro d
  induction d with
  | zero =>
    intro i k A B O hi hk
    obtain ⟨k, rfl⟩ : ∃ q, k = q + 1 := ⟨k - 1, by omega⟩
    rw [spec_l5Mul.l0, if_neg (by omega), downs, pol, BitVec.xor_zero]
  | succ d ih =>
    intro i k A B O hi hk
    obtain ⟨k, rfl⟩ : ∃ q, k = q + 2 := ⟨k - 2, by omega⟩
    have hi1 : wrap64 ((i : Int) + 1) = ((i + 1 : Nat) : Int) := by rw [w64 (by omega) (by omega)]; omega
    have hstep : ∀ bit : Int, ((Go.bits .and .u64 bit 1 = 1) ↔ A.getLsbD d = true) → spec_l5Mul.j1 (k + 1) (i : Int) bit (hI A) (lI A) (hI B) (lI B) (hI O) (lI O) = some (hI (O ^^^ pol X128 (downs A (d + 1)) B), lI (O ^^^ pol X128 (downs A (d + 1)) B)) := by
      intro bit hb
      have hX := hI_X B
      rw [spec_l5Mul.j1, hi1, ← lI_X, downs, pol, hI_xor, lI_xor]
      by_cases h : A.getLsbD d = true
      · rw [if_pos (hb.2 h), if_pos h, ← BitVec.xor_assoc]
        by_cases hl : Go.bits .and .u64 (lI B) 1 = 1
        · rw [if_pos hl] at hX ⊢
          rw [← hX, ih (i + 1) k _ _ _ (by omega) (by omega)]
        · rw [if_neg hl] at hX ⊢
          rw [← hX, ih (i + 1) k _ _ _ (by omega) (by omega)]
      · rw [if_neg (fun e => h (hb.1 e)), if_neg h, BitVec.zero_xor]
        by_cases hl : Go.bits .and .u64 (lI B) 1 = 1
        · rw [if_pos hl] at hX ⊢
          rw [← hX, ih (i + 1) k _ _ _ (by omega) (by omega)]
        · rw [if_neg hl] at hX ⊢
          rw [← hX, ih (i + 1) k _ _ _ (by omega) (by omega)]
    have e0 : 0 ≤ IntKind.u64.wrap (wrap64 (63 - (i : Int))) := by rw [IntKind.wrap_u64]; omega
    rw [spec_l5Mul.l0, if_pos (by omega), if_pos e0]
    by_cases hi6 : 63 < i
    · have e : IntKind.u64.wrap (wrap64 (127 - (i : Int))) = ((d : Nat) : Int) := by
        rw [IntKind.wrap_u64]
        unfold wrap64
        omega
      rw [e, if_pos (by omega), if_pos (by omega)]
      exact hstep _ (lI_bit A d (by omega) _ rfl)
    · have e : IntKind.u64.wrap (wrap64 (63 - (i : Int))) = ((d - 64 : Nat) : Int) := by
        rw [IntKind.wrap_u64]
        unfold wrap64
        omega
      rw [e, if_neg (by omega)]
      refine hstep _ ?_
      have := hI_bit A (d - 64) (by omega) _ rfl
      rwa [show 64 + (d - 64) = d by omega] at this
theorem spec_l5Mul.ev (A B : BitVec 128) (k : Nat) (hk : 256 < k) : spec_l5Mul.f k (hI A) (lI A) (hI B) (lI B) = some (hI (mulV A B), lI (mulV A B)) := by
  have := spec_l5Mul.ev_l 128 0 k A B 0#128 (by omega) (by omega)
  rw [hI_zero, lI_zero, BitVec.zero_xor] at this
  exact this
theorem spec_l5Ghash.ev_l (h : BitVec 128) (s : ByteArray) (m : Nat) (hs : s.size = 16 * m) (hm : m ≤ 1000000) : ∀ (d i k : Nat), i + d = m → d + 300 < k →
    spec_l5Ghash.l0 k s ((16 * i : Nat) : Int) (hI (ghV h (byt s) i)) (lI (ghV h (byt s) i)) (hI h) (lI h) = some (hI (ghV h (byt s) m), lI (ghV h (byt s) m)) := by
  intro d
  induction d with
  | zero =>
    intro i k hi hk
    obtain ⟨k, rfl⟩ : ∃ q, k = q + 1 := ⟨k - 1, by omega⟩
    obtain rfl : i = m := by omega
    rw [spec_l5Ghash.l0, if_neg (by omega)]
  | succ d ih =>
    intro i k hi hk
    obtain ⟨k, rfl⟩ : ∃ q, k = q + 1 := ⟨k - 1, by omega⟩
    have e1 : wrap64 (((16 * i : Nat) : Int) + 16) = ((16 * (i + 1) : Nat) : Int) := by
      rw [w64 (by omega) (by omega)]
      omega
    have hsz : (s.extract (16 * i) (16 * i + 16)).size = 16 := by rw [size_extract _ _ _ (by omega)]; omega
    rw [spec_l5Ghash.l0, e1, if_pos (by omega), if_pos (by omega), if_pos (by omega), if_pos (by omega), Int.toNat_natCast, Int.toNat_natCast, show 16 * (i + 1) = 16 * i + 16 by omega,
      spec_l5Of.ev _ hsz k (by omega), Option.bind_some]
    simp only [hI_xor, lI_xor]
    rw [spec_l5Mul.ev _ _ k (by omega), Option.bind_some, byt_block, mulV_comm]
    have e := ih (i + 1) k (by omega) (by omega)
    rw [ghV] at e
    exact e
theorem spec_l5Ghash.ev (h s : ByteArray) (m : Nat) (hh : h.size = 16) (hs : s.size = 16 * m) (hm : m ≤ 1000000) (k : Nat) (hk : m + 300 < k) : spec_l5Ghash.f k h s = some (hI (ghV (blkV (byt h)) (byt s) m), lI (ghV (blkV (byt h)) (byt s) m)) := by
  have := spec_l5Ghash.ev_l (blkV (byt h)) s m hs hm m 0 k (by omega) hk
  rw [ghV, hI_zero, lI_zero] at this
  rw [spec_l5Ghash.f, spec_l5Of.ev h hh k (by omega), Option.bind_some]
  exact this
theorem spec_l5Told.ev (v : BitVec 128) (k : Nat) (hk : 8 < k) : spec_l5Told.f k (hI v) (lI v) = some (strOfNums (vtext v)) := by
  rw [spec_l5Told.f, show (8 : Int) = ((8 : Nat) : Int) from rfl, spec_l1Fixed.ev _ 8 (by omega) k hk, Option.bind_some, spec_l1Fixed.ev _ 8 (by omega) k hk, Option.bind_some, if_pos (by rw [strOfNums_size, strOfNums_size, be_length, be_length]; omega), be8_wrap, be8_wrap, ← strOfNums_app]
  rfl
theorem spec_l5Full.ev (d : Nat) : ∀ (k : Nat) (s : ByteArray), (16 - s.size % 16) % 16 = d → s.size ≤ 2000000 → d < k → spec_l5Full.f k s = some (strOfNums (full (byt s))) := by
  simp only [spec_l5Full.f]
  induction d with
  | zero =>
    intro k s hd hs hk
    obtain ⟨k, rfl⟩ : ∃ q, k = q + 1 := ⟨k - 1, by omega⟩
    rw [spec_l5Full.l0, if_pos (by omega), full, byt_length, hd, List.replicate_zero, List.append_nil, strOfNums_byt]
  | succ d ih =>
    intro k s hd hs hk
    obtain ⟨k, rfl⟩ : ∃ q, k = q + 1 := ⟨k - 1, by omega⟩
    have h1 : (s ++ (⟨#[0]⟩ : ByteArray)).size = s.size + 1 := by rw [ByteArray.size_append]; rfl
    rw [spec_l5Full.l0, if_neg (by omega), if_pos (by omega), ih k _ (by rw [h1]; omega) (by rw [h1]; omega) (by omega), full, full, byt_append, List.length_append, byt_length, List.append_assoc]
    have e : byt ⟨#[0]⟩ = [0] := rfl
    rw [e, List.length_singleton, hd, show (16 - (s.size + 1) % 16) % 16 = d by omega]
    rfl
theorem csS : CsS where
  fix := by
    intro n m mi w hmi hm h0 h1
    subst hmi
    exact spec_l1Fixed.calls 9 n m _ w (spec_l1Fixed.ev n m hm _ (by omega))
  ghash := by
    intro h s m w hh hs hm
    exact spec_l5Ghash.calls (m + 301) h s _ _ w (spec_l5Ghash.ev h s m hh hs (by omega) _ (by omega))
  fill := by
    intro s w hs
    exact (spec_l5Full.calls 17 s _ w (spec_l5Full.ev _ 17 s rfl (by omega) (by omega))).mono fun e w' hh => ⟨hh.1, hh.2.below⟩
  told := by
    intro v w
    exact spec_l5Told.calls 9 (hI v) (lI v) _ w (spec_l5Told.ev v 9 (by omega))
/-! ### spec_l10Tag: by hand -/
def rkey : ByteArray := ⟨#[190, 12, 105, 11, 159, 102, 87, 90, 29, 118, 107, 84, 227, 104, 200, 78]⟩
def rnonce : ByteArray := ⟨#[70, 21, 153, 211, 93, 99, 43, 242, 35, 152, 37, 187]⟩
def spec_l10Tag.f (a0 : ByteArray) (a1 : ByteArray) : Option (ByteArray) :=
  if a0.size ≤ 1000 ∧ a1.size ≤ 10000 then some (strOfNums (sealL (ks (byt rkey) 40).1 (byt rnonce) (be 1 (a0.size : Int) ++ byt a0 ++ byt a1) [])) else none
theorem spec_l10Tag.calls (a0 : ByteArray) (a1 : ByteArray) (r : ByteArray) (w : World) (h : spec_l10Tag.f a0 a1 = some r) :
    Calls Try.prog 6 #[.string a0, .string a1] w fun e w' => e = .returned (.string r) ∧ Below w.heap.size w w' := by
  unfold spec_l10Tag.f at h
  split at h
  · rename_i hc
    obtain ⟨hc0, hc1⟩ := hc
    obtain ⟨R, hR⟩ : ∃ R, R = strOfNums (sealL (ks (byt rkey) 40).1 (byt rnonce) (be 1 (a0.size : Int) ++ byt a0 ++ byt a1) []) := ⟨_, rfl⟩
    rw [← hR] at h
    obtain rfl := Option.some.inj h
    obtain ⟨I, hI⟩ : ∃ I, I = strOfNums (be 1 (a0.size : Int)) ++ a0 := ⟨_, rfl⟩
    have hIs : I.size = 1 + a0.size := by rw [hI, ByteArray.size_append, strOfNums_size, be_length]
    have HID : Hid (∀ w', Calls Try.prog 12 #[.string a0] w' fun e w'' => e = .returned (.string I) ∧ Below w'.heap.size w' w'') := Lib.hid (by
      intro w'
      refine spec_l2Id.calls 1001 a0 I w' ?_
      rw [spec_l2Id.f, show (1 : Int) = ((1 : Nat) : Int) from rfl, spec_l1Fixed.ev _ 1 (by omega) _ (by omega), Option.bind_some, if_pos (by rw [strOfNums_size, be_length]; omega), hI])
    have HSE : Hid (∀ w' g, KAt w' g (ks (byt rkey) 40).1 → Calls Try.prog 11 #[.pointer (some ⟨g, 0, none⟩), .string rnonce, .string (I ++ a1), .string ⟨#[]⟩] w' fun e w'' => e = .returned (.string R) ∧ Below w'.heap.size w' w'') := Lib.hid (by
      intro w' g hk
      have := sseal_any csS w' g _ hk rnonce (I ++ a1) ⟨#[]⟩ rfl (by rw [ByteArray.size_append, hIs]; omega) (by show 0 ≤ _; omega)
      rw [hR]
      rw [hI, byt_append, byt_append, byt_nums _ (be_range _ _)] at this
      rw [hI]
      exact this)
    have hcc : I.size + a1.size ≤ 9223372036854775807 := by omega
    clear h hR hI hIs
    go_enter Try.func6, Try.ntmps6
    go_wp2_with fail
    refine (l5Key_any rkey _ rfl).mono ?_
    rintro e w2 ⟨g, rfl, hk, hb2⟩
    have HK := Lib.hid hk
    clear hk
    go_wp2_with fail
    refine (HID.out _).mono ?_
    rintro e w3 ⟨rfl, hb3⟩
    have HK3 := Lib.hid (HK.out.below hb3)
    have HB := Lib.hid (bnx hb2 hb3)
    clear hb2 hb3 HK
    go_wp2_with fail
    refine (HSE.out _ g HK3.out).mono ?_
    rintro e w4 ⟨rfl, hb4⟩
    have HB4 := Lib.hid (bnx HB.out hb4)
    clear hb4 HB
    go_wp2_with fail
    go_ret
    exact ⟨rfl, HB4.out⟩
  · cases h

end Go.Proofs.Ytefhhhdcgonmgaa.PFnExactRetryTag
