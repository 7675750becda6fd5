-- Written by a program of this seat (hprint.py), by way of the kit's print. Lean checks it.
import Derived.Test.YtefhhhdcgonmgaaPFnExactRetryTagx0
import Derived.Test.YtefhhhdcgonmgaaPFnExactRetryTagx3
import Derived.Test.YtefhhhdcgonmgaaPFnExactRetryTagx6
import Derived.Test.YtefhhhdcgonmgaaPFnExactRetryTagx7
import Derived.Test.YtefhhhdcgonmgaaPFnExactRetryTagx8
import Derived.Test.YtefhhhdcgonmgaaPFnExactRetryTagx9
import Derived.Test.YtefhhhdcgonmgaaHbITag
namespace Go.Proofs.Ytefhhhdcgonmgaa.PFnExactRetryTag
open Go.RowKit Go.Proofs.YtefhhhdcgonmgaaW.PrintWords Go.Proofs.YtefhhhdcgonmgaaW.PrintLast Go.Proofs.YtefhhhdcgonmgaaW.PrintMore
attribute [local go_sem] max2_int min2_int max_two min_two max_three min_three max_four min_four   -- for this text's walks alone
set_option linter.unusedVariables false
set_option linter.unusedSimpArgs false

-- HAND 8
open Go.Proofs.Ytefhhhdcgonmgaa.Hb
theorem impl_bigEndian.ev_l (m : Nat) (hm : m ≤ 1000) : ∀ (j k : Nat) (x : Int) (l : List Int), l.length = m → j ≤ m → j < k → impl_bigEndian.l0 k x l ((j : Int) - 1) = some (strOfNums (be j x ++ l.drop j)) := by
  intro j
  induction j with
  | zero =>
    intro k x l hl hj hk
    obtain ⟨k, rfl⟩ : ∃ q, k = q + 1 := ⟨k - 1, by omega⟩
    rw [impl_bigEndian.l0, if_neg (by omega)]
    rfl
  | succ j ih =>
    intro k x l hl hj hk
    obtain ⟨k, rfl⟩ : ∃ q, k = q + 1 := ⟨k - 1, by omega⟩
    have e : (((j + 1 : Nat) : Int) - 1).toNat = j := by omega
    rw [impl_bigEndian.l0, if_pos (by omega), if_pos (by omega), if_pos (by omega), w64 (by omega) (by omega), show ((j + 1 : Nat) : Int) - 1 - 1 = (j : Int) - 1 by omega, e,
      ih k _ _ (by simpa using hl) (by omega) (by omega), be_snoc, List.append_assoc]
    congr 3
    rw [List.drop_set, if_neg (by omega), Nat.sub_self, List.drop_eq_getElem_cons (by omega : j < l.length)]
    rfl
theorem impl_bigEndian.ev (n : Int) (m : Nat) (hm : m ≤ 1000) (k : Nat) (hk : m < k) : impl_bigEndian.f k n (m : Int) = some (strOfNums (be m n)) := by
  rw [impl_bigEndian.f, if_pos (by omega), if_pos (by omega), w64 (by omega) (by omega), Int.toNat_natCast, impl_bigEndian.ev_l m hm m k n _ (by simp) (Nat.le_refl _) hk]
  simp
theorem impl_numberOf.ev_l (s : ByteArray) (hs : s.size ≤ 1000000) : ∀ (d k i : Nat), i + d = s.size → d < k → impl_numberOf.l0 k s (nb ((byt s).take i) % 18446744073709551616) (s.size : Int) (i : Int) = some (nb (byt s) % 18446744073709551616) := by
  intro d
  induction d with
  | zero =>
    intro k i hi hk
    obtain ⟨k, rfl⟩ : ∃ q, k = q + 1 := ⟨k - 1, by omega⟩
    rw [impl_numberOf.l0, if_neg (by omega), List.take_of_length_le (by rw [byt_length]; omega)]
  | succ d ih =>
    intro k i hi hk
    obtain ⟨k, rfl⟩ : ∃ q, k = q + 1 := ⟨k - 1, by omega⟩
    have hil : i < s.size := by omega
    have hb := byt_mem s ((byt s).getD i 0) (by
      rw [List.getD_eq_getElem?_getD, List.getElem?_eq_getElem (by simpa using hil)]
      exact List.getElem_mem _)
    rw [impl_numberOf.l0, if_pos (by omega), if_pos (by omega), if_pos (by omega), bt_eq s i hil, or_u64 _ _ hb.1 (by omega), w64 (by omega) (by omega)]
    have e := ih k (i + 1) (by omega) (by omega)
    rw [take_byt s i hil, nb_snoc] at e
    rw [← e]
    congr 1
    omega
theorem impl_numberOf.ev (s : ByteArray) (hs : s.size ≤ 1000000) (k : Nat) (hk : s.size < k) : impl_numberOf.f k s = some (nb (byt s) % 18446744073709551616) := by
  rw [impl_numberOf.f]
  exact impl_numberOf.ev_l s hs s.size k 0 (by omega) hk
theorem impl_numberOf.ev8 (s : ByteArray) (hs : s.size ≤ 8) (k : Nat) (hk : 8 < k) : impl_numberOf.f k s = some (nb (byt s)) := by
  have h := nb_range (byt s) (byt_mem s)
  have h2 := p256 (byt s).length (by rw [byt_length]; exact hs)
  rw [impl_numberOf.ev s (by omega) k (by omega), Int.emod_eq_of_lt h.1 (by omega)]
theorem impl_poly_byX.ev (v : BitVec 128) : impl_poly_byX.f (hI v) (lI v) = some (hI (X128 v), lI (X128 v)) := by
  rw [impl_poly_byX.f, hI_X, lI_X]
  split <;> rfl
theorem impl_poly_times.ev_l : ∀ (d i k : Nat) (P Q O : BitVec 128), i + d = 128 → 2 * d < k →
    impl_poly_times.l0 k (i : Int) (hI P) (lI P) (hI Q) (lI Q) (hI O) (lI O) = some (hI (O ^^^ pol X128 (downs Q d) P), lI (O ^^^ pol X128 (downs Q d) P)) := by
  intro d
  induction d with
  | zero =>
    intro i k P Q O hi hk
    obtain ⟨k, rfl⟩ : ∃ q, k = q + 1 := ⟨k - 1, by omega⟩
    rw [impl_poly_times.l0, if_neg (by omega), downs, pol, BitVec.xor_zero]
  | succ d ih =>
    intro i k P Q O hi hk
    obtain ⟨k, rfl⟩ : ∃ q, k = q + 2 := ⟨k - 2, by omega⟩
    have hstep : ∀ bit : Int, ((Go.bits .and .u64 bit 1 = 1) ↔ Q.getLsbD d = true) → impl_poly_times.j1 (k + 1) bit (i : Int) (hI P) (lI P) (hI Q) (lI Q) (hI O) (lI O) = some (hI (O ^^^ pol X128 (downs Q (d + 1)) P), lI (O ^^^ pol X128 (downs Q (d + 1)) P)) := by
      intro bit hb
      rw [impl_poly_times.j1, downs, pol]
      by_cases h : Q.getLsbD d = true
      · rw [if_pos (hb.2 h), if_pos h, impl_poly_xor.f, hI_xor, lI_xor, Option.bind_some, impl_poly_byX.ev, Option.bind_some, w64 (by omega) (by omega), show (i : Int) + 1 = ((i + 1 : Nat) : Int) by omega,
          ih (i + 1) k _ _ _ (by omega) (by omega), BitVec.xor_assoc]
      · rw [if_neg (fun e => h (hb.1 e)), if_neg h, impl_poly_byX.ev, Option.bind_some, w64 (by omega) (by omega), show (i : Int) + 1 = ((i + 1 : Nat) : Int) by omega,
          ih (i + 1) k _ _ _ (by omega) (by omega), BitVec.zero_xor]
    rw [impl_poly_times.l0, if_pos (by omega)]
    by_cases hi6 : 63 < i
    · have e : wrap64 (63 - Int.tmod (i : Int) 64) = ((d : Nat) : Int) := by
        rw [Int.tmod_eq_emod_of_nonneg (by omega)]
        unfold wrap64
        omega
      rw [e, if_pos (by omega), if_pos (by omega)]
      exact hstep _ (lI_bit Q d (by omega) _ rfl)
    · have e : wrap64 (63 - Int.tmod (i : Int) 64) = ((d - 64 : Nat) : Int) := by
        rw [Int.tmod_eq_emod_of_nonneg (by omega)]
        unfold wrap64
        omega
      rw [e, if_pos (by omega), if_neg (by omega)]
      refine hstep _ ?_
      have := hI_bit Q (d - 64) (by omega) _ rfl
      rwa [show 64 + (d - 64) = d by omega] at this
theorem impl_poly_times.ev (P Q : BitVec 128) (k : Nat) (hk : 256 < k) : impl_poly_times.f k (hI P) (lI P) (hI Q) (lI Q) = some (hI (mulV Q P), lI (mulV Q P)) := by
  have := impl_poly_times.ev_l 128 0 k P Q 0#128 (by omega) (by omega)
  rw [hI_zero, lI_zero, BitVec.zero_xor] at this
  exact this
theorem impl_polyOf.ev (s : ByteArray) (hs : s.size = 16) (k : Nat) (hk : 8 < k) : impl_polyOf.f k s = some (hI (blkV (byt s)), lI (blkV (byt s))) := by
  have h1 : (s.extract 0 8).size = 8 := size_extract _ _ _ (by omega)
  have h2 : (s.extract 8 s.size).size = 8 := by rw [size_extract _ _ _ (by omega)]; omega
  rw [impl_polyOf.f, if_pos (by omega), if_pos (by omega), impl_numberOf.ev8 _ (by omega) k hk, Option.bind_some, impl_numberOf.ev8 _ (by omega) k hk, Option.bind_some, byt_take8, byt_drop8,
    hI_blk _ (byt_mem s), lI_blk _ (byt_mem s) (by rw [byt_length]; omega)]
theorem impl_ghash.ev_l (h : BitVec 128) (s : ByteArray) (m : Nat) (hs : s.size = 16 * m) (hm : m ≤ 1000000) : ∀ (d i k : Nat), i + d = m → d + 300 < k →
    impl_ghash.l0 k s ((16 * i : Nat) : Int) (hI h) (lI h) (hI (ghV h (byt s) i)) (lI (ghV h (byt s) i)) = some (hI (ghV h (byt s) m), lI (ghV h (byt s) m)) := by
  intro d
  induction d with
  | zero =>
    intro i k hi hk
    obtain ⟨k, rfl⟩ : ∃ q, k = q + 1 := ⟨k - 1, by omega⟩
    obtain rfl : i = m := by omega
    rw [impl_ghash.l0, if_neg (by omega)]
  | succ d ih =>
    intro i k hi hk
    obtain ⟨k, rfl⟩ : ∃ q, k = q + 1 := ⟨k - 1, by omega⟩
    have e1 : wrap64 (((16 * i : Nat) : Int) + 16) = ((16 * (i + 1) : Nat) : Int) := by
      rw [w64 (by omega) (by omega)]
      omega
    have hsz : (s.extract (16 * i) (16 * i + 16)).size = 16 := by rw [size_extract _ _ _ (by omega)]; omega
    rw [impl_ghash.l0, e1, if_pos (by omega), if_pos (by omega), if_pos (by omega), if_pos (by omega), Int.toNat_natCast, Int.toNat_natCast, show 16 * (i + 1) = 16 * i + 16 by omega,
      impl_polyOf.ev _ hsz k (by omega), Option.bind_some, impl_poly_xor.f, Option.bind_some]
    simp only [hI_xor, lI_xor]
    rw [impl_poly_times.ev _ _ k (by omega), Option.bind_some, byt_block]
    have e := ih (i + 1) k (by omega) (by omega)
    rw [ghV] at e
    exact e
theorem impl_ghash.ev (h : BitVec 128) (s : ByteArray) (m : Nat) (hs : s.size = 16 * m) (hm : m ≤ 1000000) (k : Nat) (hk : m + 300 < k) : impl_ghash.f k (hI h) (lI h) s = some (hI (ghV h (byt s) m), lI (ghV h (byt s) m)) := by
  have := impl_ghash.ev_l h s m hs hm m 0 k (by omega) hk
  rw [ghV, hI_zero, lI_zero] at this
  exact this
theorem impl_poly_text.ev (v : BitVec 128) (k : Nat) (hk : 8 < k) : impl_poly_text.f k (hI v) (lI v) = some (strOfNums (vtext v)) := by
  rw [impl_poly_text.f, show (8 : Int) = ((8 : Nat) : Int) from rfl, impl_bigEndian.ev _ 8 (by omega) k hk, Option.bind_some, impl_bigEndian.ev _ 8 (by omega) k hk, Option.bind_some, if_pos (by rw [strOfNums_size, strOfNums_size, be_length, be_length]; omega), ← strOfNums_app]
  rfl
theorem repeat0 (n : Nat) : Lib.repeatL [0] n = List.replicate n 0 := by
  induction n with
  | zero => rfl
  | succ n ih => rw [Lib.repeatL, ih]; rfl
theorem impl_filled.ev (s : ByteArray) (hs : s.size ≤ 1000000) : impl_filled.f s = some (strOfNums (full (byt s))) := by
  have e : (16 - ((s.size : Int) % 16)) % 16 = (((16 - s.size % 16) % 16 : Nat) : Int) := by omega
  have hr : strings_Repeat.f ⟨#[0]⟩ ((16 - ((s.size : Int) % 16)) % 16) = some (strOfNums (List.replicate ((16 - s.size % 16) % 16) 0)) := by
    rw [e, strings_Repeat.f, if_pos ⟨by omega, by omega, by show 1 * _ ≤ _; omega⟩, Int.toNat_natCast]
    congr 1
    apply ByteArray.ext
    show (Lib.repeatL [0] _).toArray = _
    rw [repeat0]
    simp [strOfNums]
  rw [impl_filled.f, hr, Option.bind_some, if_pos (by rw [strOfNums_size, List.length_replicate]; omega), full_pad]
theorem csI : CsI where
  be := by
    intro n m mi w hmi hm h0 h1
    subst hmi
    exact impl_bigEndian.calls 1001 n m _ w (impl_bigEndian.ev n m (by omega) _ (by omega))
  num := by
    intro s w hs
    exact (impl_numberOf.calls 9 s _ w (impl_numberOf.ev8 s hs 9 (by omega))).mono fun e w' hh => ⟨hh.1, hh.2.below⟩
  poly := by
    intro s w hs
    exact impl_polyOf.calls 9 s _ _ w (impl_polyOf.ev s hs 9 (by omega))
  ghash := by
    intro h s m w hs hm
    exact impl_ghash.calls (m + 301) (hI h) (lI h) s _ _ w (impl_ghash.ev h s m hs (by omega) _ (by omega))
  fill := by
    intro s w hs
    exact impl_filled.calls s _ w (impl_filled.ev s hs)
  text := by
    intro v w
    exact impl_poly_text.calls 9 (hI v) (lI v) _ w (impl_poly_text.ev v 9 (by omega))
/-! ### impl_SealText: by hand -/
def impl_SealText.f (a0 : ByteArray) (a1 : ByteArray) (a2 : ByteArray) (a3 : ByteArray) : Option (ByteArray × Bool) :=
  if a0.size = 16 ∧ a1.size = 12 ∧ a2.size ≤ 1500 then (if a3.size ≤ 1500 then some (strOfNums (sealL (ks (byt a0) 40).1 (byt a1) (byt a2) (byt a3)), true) else if a3.size ≤ 9223372036854775807 then some (⟨#[]⟩, false) else none)
  else if a3.size ≤ 9223372036854775807 then some (⟨#[]⟩, false) else none
theorem impl_SealText.calls (a0 : ByteArray) (a1 : ByteArray) (a2 : ByteArray) (a3 : ByteArray) (r1 : ByteArray) (r2 : Bool) (w : World) (h : impl_SealText.f a0 a1 a2 a3 = some (r1, r2)) :
    Calls Try.prog 8 #[.string a0, .string a1, .string a2, .string a3] w fun e w' => e = .returned (.tuple #[.string r1, .bool r2]) ∧ Below w.heap.size w w' := by
  have hok : ∀ (a b c : ByteArray) (w : World), Calls Try.prog 14 #[.string a, .string b, .string c] w fun e w' => e = .returned (.bool (decide (a.size = 16 ∧ b.size = 12 ∧ c.size ≤ 1500))) ∧ Below w.heap.size w w' := by
    intro a b c w
    refine (impl_sealOk.calls a b c _ w ?_).mono fun e w' hh => ⟨hh.1, hh.2.below⟩
    simp only [impl_sealOk.f, impl_isKey.f, Option.bind_some]
    by_cases h1 : a.size = 16
    · by_cases h2 : b.size = 12
      · simp [h1, h2]
        omega
      · simp [h1, h2]
        omega
    · have : ¬ ((a.size : Int) = 16) := by omega
      simp [h1, this]
  unfold impl_SealText.f at h
  split at h
  · rename_i hc
    split at h
    · rename_i h4
      obtain ⟨rfl, rfl⟩ := Prod.mk.inj (Option.some.inj h)
      exact iseal_yes (csI) (fun a b c w h1 h2 h3 => (hok a b c w).mono fun e w' hh => ⟨by rw [hh.1, decide_eq_true ⟨h1, h2, h3⟩], hh.2⟩) w a0 a1 a2 a3 hc.1 hc.2.1 hc.2.2 h4
    · split at h
      · obtain ⟨rfl, rfl⟩ := Prod.mk.inj (Option.some.inj h)
        exact iseal_no _ w a0 a1 a2 a3 (hok a0 a1 a2 w) (by assumption) (fun _ => by omega)
      · cases h
  · rename_i hc
    split at h
    · obtain ⟨rfl, rfl⟩ := Prod.mk.inj (Option.some.inj h)
      exact iseal_no _ w a0 a1 a2 a3 (hok a0 a1 a2 w) (by assumption) (fun e => absurd (of_decide_eq_true e) hc)
    · cases h

end Go.Proofs.Ytefhhhdcgonmgaa.PFnExactRetryTag
