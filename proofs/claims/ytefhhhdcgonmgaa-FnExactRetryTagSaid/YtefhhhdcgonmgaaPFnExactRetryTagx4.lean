-- Written by a program of this seat (hprint.py), by way of the kit's print. Lean checks it.
import Derived.Test.YtefhhhdcgonmgaaPFnExactRetryTagx0
import Derived.Test.YtefhhhdcgonmgaaPFnExactRetryTagx3
namespace Go.Proofs.Ytefhhhdcgonmgaa.PFnExactRetryTag
open Go.RowKit Go.Proofs.YtefhhhdcgonmgaaW.PrintWords Go.Proofs.YtefhhhdcgonmgaaW.PrintLast Go.Proofs.YtefhhhdcgonmgaaW.PrintMore
attribute [local go_sem] max2_int min2_int max_two min_two max_three min_three max_four min_four   -- for this text's walks alone
set_option linter.unusedVariables false
set_option linter.unusedSimpArgs false

/-! ### spec_RetryTag: function 4 -/
def spec_RetryTag.f (a0 : ByteArray) (a1 : ByteArray) : Option (ByteArray × Bool) := if (a0.size : Int) > 20 then (some ((⟨#[]⟩ : ByteArray), false)) else (if (a1.size : Int) > 1000 then (some ((⟨#[]⟩ : ByteArray), false)) else ((spec_l10Tag.f a0 a1).bind fun t125 => (some (t125, true))))
set_option maxHeartbeats 8000000 in
set_option maxRecDepth 100000 in
theorem spec_RetryTag.calls (a0 : ByteArray) (a1 : ByteArray) (r1 : ByteArray) (r2 : Bool) (w : World) (h : spec_RetryTag.f a0 a1 = some (r1, r2)) :
    Calls Try.prog 4 #[.string a0, .string a1] w fun e w' => e = .returned (.tuple #[.string r1, .bool r2]) ∧ Below w.heap.size w w' := by
  have HB := Aside0.mk (Below.refl w.heap.size w)
  have H : (if (a0.size : Int) > 20 then (some ((⟨#[]⟩ : ByteArray), false)) else (if (a1.size : Int) > 1000 then (some ((⟨#[]⟩ : ByteArray), false)) else ((spec_l10Tag.f a0 a1).bind fun t125 => (some (t125, true))))) = some (r1, r2) := h
  clear h
  by_cases c3 : (a0.size : Int) > 20
  · rw [if_pos c3] at H
    have c3b0 : decide (20 < (a0.size : Int)) = true := decide_eq_true c3
    have c3b1 : decide (20 < a0.size) = true := decide_eq_true (by omega)
    clear c3
    simp only [Option.some.injEq, Prod.mk.injEq] at H
    obtain ⟨rfl, rfl⟩ := H
    go_enter Try.func4, Try.ntmps4
    go_wp2
    go_ret2
    exact ⟨by first | rfl | (simp [errW_none, errW_some] <;> rfl) | (simp [*, errW_none, errW_some] <;> rfl), by repeat (first | (with_reducible first | exact HB.out | apply below_alloc | apply pw_below_drewN | apply below_drew1) | exact HB.out)⟩
  · rw [if_neg c3] at H
    have c3b0 : decide (20 < (a0.size : Int)) = false := decide_eq_false c3
    have c3b1 : decide (20 < a0.size) = false := decide_eq_false (by omega)
    clear c3
    by_cases c4 : (a1.size : Int) > 1000
    · rw [if_pos c4] at H
      have c4b0 : decide (1000 < (a1.size : Int)) = true := decide_eq_true c4
      have c4b1 : decide (1000 < a1.size) = true := decide_eq_true (by omega)
      clear c4
      simp only [Option.some.injEq, Prod.mk.injEq] at H
      obtain ⟨rfl, rfl⟩ := H
      go_enter Try.func4, Try.ntmps4
      go_wp2
      go_ret2
      exact ⟨by first | rfl | (simp [errW_none, errW_some] <;> rfl) | (simp [*, errW_none, errW_some] <;> rfl), by repeat (first | (with_reducible first | exact HB.out | apply below_alloc | apply pw_below_drewN | apply below_drew1) | exact HB.out)⟩
    · rw [if_neg c4] at H
      have c4b0 : decide (1000 < (a1.size : Int)) = false := decide_eq_false c4
      have c4b1 : decide (1000 < a1.size) = false := decide_eq_false (by omega)
      clear c4
      replace H := Option.bind_eq_some_iff.mp H
      obtain ⟨t125, A50, H⟩ := H
      replace H : (some (t125, true)) = some (r1, r2) := H
      have A5 := Aside0.mk A50
      clear A50
      simp only [Option.some.injEq, Prod.mk.injEq] at H
      obtain ⟨rfl, rfl⟩ := H
      go_enter Try.func4, Try.ntmps4
      go_wp2_with (first | ((with_reducible refine gate_callee (f := 6) rfl ?_); refine goesL_ (some 16) rfl rfl Try.func6 (by kernel_rfl) rfl #[.string a0, .string a1] rfl (by (try simp only [List.map_toArray, List.map_cons, List.map_nil]); first | done | rfl | (simp only [List.length_drop, List.length_take]; rfl)) ?_; (with_reducible refine (spec_l10Tag.calls a0 a1 t125 _ A5.out).mono ?_); rintro e w6 ⟨rfl, hb⟩; refine ⟨_, rfl, ?_⟩; have n0_ := Aside0.mk (below_step (by repeat (first | (with_reducible first | exact HB.out | apply below_alloc | apply pw_below_drewN | apply below_drew1) | exact HB.out)) hb); clear HB; have HB := n0_; clear n0_; (try clear hb); (try clear hb2); (try clear hk); (try clear hi)))
      go_ret2
      exact ⟨by first | rfl | (simp [errW_none, errW_some] <;> rfl) | (simp [*, errW_none, errW_some] <;> rfl), by repeat (first | (with_reducible first | exact HB.out | apply below_alloc | apply pw_below_drewN | apply below_drew1) | exact HB.out)⟩

end Go.Proofs.Ytefhhhdcgonmgaa.PFnExactRetryTag
