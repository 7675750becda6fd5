import Derived.Test.YtefhhhdcgonmgaaHbSCnt
import Derived.Test.YtefhhhdcgonmgaaHbLow
/-! What the printed callees come to, as premises. -/
namespace Go.Proofs.Ytefhhhdcgonmgaa.Hb
open Go.RowKit
set_option linter.unusedVariables false

/-- A text filled up with noughts. -/
def full (xs : List Int) : List Int := xs ++ List.replicate ((16 - xs.length % 16) % 16) 0
def vtext (v : BitVec 128) : List Int := be 8 ((hiV v).toNat : Int) ++ be 8 ((loV v).toNat : Int)
def polyW (v : BitVec 128) : Value := .agg #[.int .u64 ((hiV v).toNat : Int), .int .u64 ((loV v).toNat : Int)]
theorem full_length (xs : List Int) : (full xs).length = 16 * ((xs.length + 15) / 16) := by
  rw [full, List.length_append, List.length_replicate]
  omega
theorem full_B8 {xs : List Int} (h : ∀ x ∈ xs, 0 ≤ x ∧ x ≤ 255) : ∀ x ∈ full xs, 0 ≤ x ∧ x ≤ 255 := by
  intro x hx
  rw [full, List.mem_append] at hx
  rcases hx with hx | hx
  · exact h x hx
  · obtain rfl := (List.mem_replicate.1 hx).2
    omega
theorem vtext_length (v : BitVec 128) : (vtext v).length = 16 := by simp [vtext, be_length]
theorem vtext_B8 (v : BitVec 128) : ∀ x ∈ vtext v, 0 ≤ x ∧ x ≤ 255 := by
  intro x hx
  rw [vtext, List.mem_append] at hx
  rcases hx with hx | hx <;> exact be_range _ _ _ hx
/-- The tag of what is sealed. -/
def tagIn (A S : List Int) : List Int := full A ++ full S ++ be 8 (8 * (A.length : Int)) ++ be 8 (8 * (S.length : Int))
def tagM (A S : List Int) : Nat := (A.length + 15) / 16 + (S.length + 15) / 16 + 1
theorem tagIn_length (A S : List Int) : (tagIn A S).length = 16 * tagM A S := by
  rw [tagIn, tagM]
  simp only [List.length_append, full_length, be_length]
  omega
def tagH (K : List Int) : BitVec 128 := blkV (encL K (List.replicate 16 0))
def tagL (K N A S : List Int) : List Int := xorL (vtext (ghV (tagH K) (tagIn A S) (tagM A S))) (encL K (N ++ [0, 0, 0, 1])) 16
def sealL (K N A T : List Int) : List Int := cntL K N T ++ tagL K N A (cntL K N T)

structure CsI : Prop where
  be : ∀ (n : Int) (m : Nat) (mi : Int) (w : World), mi = (m : Int) → m ≤ 8 → 0 ≤ n → n < 18446744073709551616 →
    Calls Try.prog 18 #[.int .u64 n, .int .i64 mi] w fun e w' => e = .returned (.string (strOfNums (be m n))) ∧ Below w.heap.size w w'
  num : ∀ (s : ByteArray) (w : World), s.size ≤ 8 → Calls Try.prog 45 #[.string s] w fun e w' => e = .returned (.int .u64 (nb (byt s))) ∧ Below w.heap.size w w'
  poly : ∀ (s : ByteArray) (w : World), s.size = 16 → Calls Try.prog 30 #[.string s] w fun e w' => e = .returned (polyW (blkV (byt s))) ∧ Below w.heap.size w w'
  ghash : ∀ (h : BitVec 128) (s : ByteArray) (m : Nat) (w : World), s.size = 16 * m → m ≤ 100000 → Calls Try.prog 32 #[polyW h, .string s] w fun e w' => e = .returned (polyW (ghV h (byt s) m)) ∧ Below w.heap.size w w'
  fill : ∀ (s : ByteArray) (w : World), s.size ≤ 1000000 → Calls Try.prog 33 #[.string s] w fun e w' => e = .returned (.string (strOfNums (full (byt s)))) ∧ Below w.heap.size w w'
  text : ∀ (v : BitVec 128) (w : World), Calls Try.prog 34 #[polyW v] w fun e w' => e = .returned (.string (strOfNums (vtext v))) ∧ Below w.heap.size w w'
structure CsS : Prop where
  fix : ∀ (n : Int) (m : Nat) (mi : Int) (w : World), mi = (m : Int) → m ≤ 8 → 0 ≤ n → n < 9223372036854775808 →
    Calls Try.prog 24 #[.int .i64 n, .int .i64 mi] w fun e w' => e = .returned (.string (strOfNums (be m n))) ∧ Below w.heap.size w w'
  ghash : ∀ (h s : ByteArray) (m : Nat) (w : World), h.size = 16 → s.size = 16 * m → m ≤ 100000 → Calls Try.prog 42 #[.string h, .string s] w fun e w' => e = .returned (polyW (ghV (blkV (byt h)) (byt s) m)) ∧ Below w.heap.size w w'
  fill : ∀ (s : ByteArray) (w : World), s.size ≤ 1000000 → Calls Try.prog 40 #[.string s] w fun e w' => e = .returned (.string (strOfNums (full (byt s)))) ∧ Below w.heap.size w w'
  told : ∀ (v : BitVec 128) (w : World), Calls Try.prog 41 #[polyW v] w fun e w' => e = .returned (.string (strOfNums (vtext v))) ∧ Below w.heap.size w w'
end Go.Proofs.Ytefhhhdcgonmgaa.Hb
