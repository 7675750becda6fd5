-- Written by a program of this seat (hprint.py), by way of the kit's print. Lean checks it.
import Derived.Test.YtefhhhdcgonmgaaPFnExactRetryTagx0
import Derived.Test.YtefhhhdcgonmgaaPFnExactRetryTagx6
import Derived.Test.YtefhhhdcgonmgaaPFnExactRetryTagx10
import Derived.Test.YtefhhhdcgonmgaaHbCs
namespace Go.Proofs.Ytefhhhdcgonmgaa.PFnExactRetryTag
open Go.RowKit Go.Proofs.YtefhhhdcgonmgaaW.PrintWords Go.Proofs.YtefhhhdcgonmgaaW.PrintLast Go.Proofs.YtefhhhdcgonmgaaW.PrintMore
attribute [local go_sem] max2_int min2_int max_two min_two max_three min_three max_four min_four   -- for this text's walks alone
set_option linter.unusedVariables false
set_option linter.unusedSimpArgs false

-- HAND 9
open Go.Proofs.Ytefhhhdcgonmgaa.Hb
/-! ### impl_byteCounted: by hand -/
def impl_byteCounted.f (a0 : ByteArray) : Option (ByteArray) := if a0.size ≤ 140737488351232 then some (strOfNums (be 1 (a0.size : Int)) ++ a0) else none
theorem impl_byteCounted.calls (a0 : ByteArray) (r : ByteArray) (w : World) (h : impl_byteCounted.f a0 = some r) :
    Calls Try.prog 9 #[.string a0] w fun e w' => e = .returned (.string r) ∧ Below w.heap.size w w' := by
  unfold impl_byteCounted.f at h
  split at h
  · rename_i hc
    obtain rfl := Option.some.inj h
    obtain ⟨B, hB⟩ : ∃ B, B = strOfNums (be 1 (a0.size : Int)) := ⟨_, rfl⟩
    have hBs : B.size = 1 := by rw [hB, strOfNums_size, be_length]
    have HBE : Hid (∀ w', Calls Try.prog 18 #[.int .u64 (a0.size : Int), .int .i64 1] w' fun e w'' => e = .returned (.string B) ∧ Below w'.heap.size w' w'') := Lib.hid (fun w' => by
      rw [hB]
      exact impl_bigEndian.calls 2 (a0.size : Int) 1 _ w' (impl_bigEndian.ev (a0.size : Int) 1 (by omega) 2 (by omega)))
    have hcc : B.size + a0.size ≤ 9223372036854775807 := by omega
    rw [← hB]
    clear h hB hBs
    go_enter Try.func9, Try.ntmps9
    go_wp2_with fail
    refine (HBE.out _).mono ?_
    rintro e w2 ⟨rfl, hb2⟩
    have HB := Lib.hid hb2
    clear hb2
    go_wp2_with fail
    go_ret
    exact ⟨rfl, HB.out⟩
  · cases h

end Go.Proofs.Ytefhhhdcgonmgaa.PFnExactRetryTag
