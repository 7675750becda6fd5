import Derived.Test.YtefhhhdcgonmgaaHbLow
import Derived.Deep.LoopGhost
import Derived.Test.YtefhhhdcgonmgaaHbMix
namespace Go.Proofs.Ytefhhhdcgonmgaa.Hb
open Go.RowKit
set_option linter.unusedVariables false

set_option maxRecDepth 100000 in
set_option maxHeartbeats 400000 in
theorem l3Mix_any (w : World) (ga oa ca gb ob cb : Nat) (S F : List Int)
    (hx : ∀ i, i < 4 → w.cell? ⟨ga, oa + i, none⟩ = some (.int .u8 (S.getD i 0))) (hy : ∀ i, i < 4 → w.cell? ⟨gb, ob + i, none⟩ = some (.int .u8 (F.getD i 0))) (hS : ∀ j, j < 4 → 0 ≤ S.getD j 0 ∧ S.getD j 0 ≤ 255) :
    Calls Try.prog 39 #[.slice (some ⟨ga, oa, none⟩) 4 ca, .slice (some ⟨gb, ob, none⟩) 4 cb] w fun e w' => e = .returned (.slice (some ⟨w.heap.size, 0, none⟩) 4 4) ∧ OwnS w.heap.size w' (.slice (some ⟨w.heap.size, 0, none⟩) 4 4) (u8s (mixL F S)) ∧ Below w.heap.size w w' := by
  obtain ⟨cs, hmk, hcs⟩ := make_bytes w 4 (by omega)
  have hown := OwnS.make w 4 cs 5 hcs
  have hmk2 : (Instr.makeSlice 32 (.int .i64 4) (.int .i64 4)).run Try.prog w = .ok (.slice (some ⟨w.heap.size, 0, none⟩) 4 4) (w.alloc (.cells cs 5)) := hmk
  have hown2 : OwnS w.heap.size (w.alloc (.cells cs 5)) (.slice (some ⟨w.heap.size, 0, none⟩) 4 4) (u8s (mixTo F S 0 0)) := hown
  clear hcs hmk hown
  have HX := Lib.hid hx
  have HY := Lib.hid hy
  have HS := Lib.hid hS
  clear hx hy hS
  go_enter Try.func39, Try.ntmps39
  go_wp2
  go_loopg [11, 6, 7] 4 (fun q v6 v2 v7 wr => ∃ (i : Nat), q + i = 4 ∧ v6 = .int .i64 i ∧ OwnS w.heap.size wr (.slice (some ⟨w.heap.size, 0, none⟩) 4 4) (u8s (mixTo F S i 0)) ∧ Below w.heap.size w wr)
  case atStart => exact ⟨0, by omega, rfl, hown2, (Below.refl _ _).alloc (Nat.le_refl _) _⟩
  case round =>
    clear hown2
    obtain ⟨i, hqk, rfl, ho, hb⟩ := hrel
    by_cases hlt : i < 4
    · have hd : decide ((i : Int) < 4) = true := by simp; omega
      go_wp2
      obtain ⟨wo, rfl⟩ : ∃ wo : World, wo = wr := ⟨_, rfl⟩
      go_loopg [7] 4 (fun q v7 wr => ∃ (k : Nat), q + k = 4 ∧ v7 = .int .i64 k ∧ OwnS w.heap.size wr (.slice (some ⟨w.heap.size, 0, none⟩) 4 4) (u8s (mixTo F S i k)) ∧ Below w.heap.size w wr)
      case atStart => exact ⟨0, by omega, rfl, ho, hb⟩
      case round =>
        clear ho hb
        obtain ⟨k, hqk2, rfl, ho, hb⟩ := hrel
        by_cases hlt2 : k < 4
        · have hf := ho.free (i := i) (by rw [u8s_length, mixTo_length]; omega)
          have hc := ho.cell (u8s_at (xs := mixTo F S i k) (i := i) (by rw [mixTo_length]; omega))
          rw [mixTo_at F S i k hlt] at hc
          have hcx := cell_below (HX.out ((i + k) % 4) (by omega)) hb (World.block_lt_of_cell? w _ (HX.out ((i + k) % 4) (by omega)))
          have hcy := cell_below (HY.out k hlt2) hb (World.block_lt_of_cell? w _ (HY.out k hlt2))
          obtain ⟨hb0, hb1⟩ := HS.out ((i + k) % 4) (by omega)
          obtain ⟨a, ha⟩ : ∃ a, a = mixAt F S i k := ⟨_, rfl⟩
          obtain ⟨x, hx⟩ : ∃ x, x = S.getD ((i + k) % 4) 0 := ⟨_, rfl⟩
          obtain ⟨y, hy⟩ : ∃ y, y = F.getD k 0 := ⟨_, rfl⟩
          rw [← ha] at hc
          rw [← hx] at hcx hb0 hb1
          rw [← hy] at hcy
          have e : (mixTo F S i k).set i (bits .xor .u8 a (gm y x)) = mixTo F S i (k + 1) := by
            rw [← mixTo_set F S i k hlt, mixAt, ha, hx, hy]
          have E := Lib.hid e
          have hd : decide ((k : Int) < 4) = true := by simp; omega
          have hw1 : IntKind.i64.wrap ((i : Int) + (k : Int)) = (i : Int) + (k : Int) := by rw [IntKind.wrap_i64]; omega
          have hw2 : Int.tmod ((i : Int) + (k : Int)) 4 = ((i : Int) + (k : Int)) % 4 := Int.tmod_eq_emod_of_nonneg (by omega)
          have hi4 : (i : Int) < 4 := by omega
          have hk4 : (k : Int) < 4 := by omega
          have hi40 : 0 ≤ (i : Int) := by omega
          have hw3 : ((i : Int) + (k : Int)) % 4 < 4 := by omega
          have hw4 : 0 ≤ ((i : Int) + (k : Int)) % 4 := by omega
          rw [show (i + k) % 4 = (((i : Int) + (k : Int)) % 4).toNat by omega] at hcx
          clear ha hx hy e
          go_wp2
          refine region_tail 16 (by kernel_rfl) (by kernel_rfl) ?_
          simp only [List.take_succ_cons, List.take_zero, List.drop_succ_cons, List.drop_zero]
          repeat still_step
          still_call ((l3Mul_any _ _ _ hb0 hb1).mono fun e w' h => ⟨h.1, h.2.symm⟩)
          repeat still_step
          refine wpStill_nil ?_
          go_wp2
          go_roundg (3 - k)
          case measure => omega
          case rel =>
            refine ⟨k + 1, by omega, by go_num, ?_, (hb.setCell (Nat.le_refl _) _).drew⟩
            have h2 := ho.set (i := i) (by rw [u8s_length, mixTo_length]; omega) (.int .u8 (bits .xor .u8 a (gm y x)))
            rw [u8s_set, E.out] at h2
            exact h2.drew
        · obtain rfl : k = 4 := by omega
          go_wp2
          go_roundg (3 - i)
          case measure => omega
          case rel =>
            refine ⟨i + 1, by omega, by go_num, ?_, hb⟩
            rw [← mixTo_next F S i hlt]
            exact ho
    · obtain rfl : i = 4 := by omega
      rw [mixTo_end] at ho
      go_wp2
      go_ret
      exact ⟨rfl, ho, hb⟩
end Go.Proofs.Ytefhhhdcgonmgaa.Hb
