import Derived.Test.YtefhhhdcgonmgaaHbLow
import Derived.StillTailTactics
import Derived.RegionTactic
import Derived.BigRegion
import Derived.Deep.RegionWith
import Derived.Deep.RegionHeld3
namespace Go.Proofs.Ytefhhhdcgonmgaa.Hb
open Go.RowKit
set_option linter.unusedVariables false

/-- Byte i of a mixed column, as far as k factors go. -/
def mixAt (f s : List Int) (i : Nat) : Nat → Int
  | 0 => 0
  | k + 1 => bits .xor .u8 (mixAt f s i k) (gm (f.getD k 0) (s.getD ((i + k) % 4) 0))
def mixTo (f s : List Int) (i k : Nat) : List Int := [0, 1, 2, 3].map fun j => if j < i then mixAt f s j 4 else if j = i then mixAt f s j k else 0
def mixL (f s : List Int) : List Int := [mixAt f s 0 4, mixAt f s 1 4, mixAt f s 2 4, mixAt f s 3 4]
theorem mixTo_at (f s : List Int) (i k : Nat) (hi : i < 4) : (mixTo f s i k).getD i 0 = mixAt f s i k := by
  rcases (show i = 0 ∨ i = 1 ∨ i = 2 ∨ i = 3 by omega) with rfl | rfl | rfl | rfl <;> simp [mixTo]
theorem mixTo_set (f s : List Int) (i k : Nat) (hi : i < 4) : (mixTo f s i k).set i (mixAt f s i (k + 1)) = mixTo f s i (k + 1) := by
  rcases (show i = 0 ∨ i = 1 ∨ i = 2 ∨ i = 3 by omega) with rfl | rfl | rfl | rfl <;> simp [mixTo]
theorem mixTo_next (f s : List Int) (i : Nat) (hi : i < 4) : mixTo f s i 4 = mixTo f s (i + 1) 0 := by
  rcases (show i = 0 ∨ i = 1 ∨ i = 2 ∨ i = 3 by omega) with rfl | rfl | rfl | rfl <;> simp [mixTo, mixAt]
theorem mixTo_end (f s : List Int) : mixTo f s 4 0 = mixL f s := by simp [mixTo, mixL]
theorem mixTo_length (f s : List Int) (i k : Nat) : (mixTo f s i k).length = 4 := by simp [mixTo]

set_option maxRecDepth 100000 in
set_option maxHeartbeats 400000 in
theorem forth_any (w : World) :
    Calls Try.prog 49 #[] w fun e w' => e = .returned (.agg #[.int .u8 2, .int .u8 3, .int .u8 1, .int .u8 1]) ∧ Below w.heap.size w w' := by
  go_enter Try.func49, Try.ntmps49
  go_wp2
  exact bodyPost_ret (v := .agg #[.int .u8 2, .int .u8 3, .int .u8 1, .int .u8 1]) (by simp [results, Try.results49, go_sem]) rfl ⟨rfl, (Below.refl _ _).alloc (Nat.le_refl _) _⟩

set_option maxRecDepth 100000 in
set_option maxHeartbeats 1000000 in
theorem mixed_any (w : World) (g off cap : Nat) (xs : List Int) (f0 f1 f2 f3 : Int) (hx : Row w g (u8s xs)) (hoff : off + 4 ≤ xs.length)
    (hs : ∀ x ∈ xs, 0 ≤ x ∧ x ≤ 255) :
    Calls Try.prog 48 #[.slice (some ⟨g, off, none⟩) 4 cap, .agg #[.int .u8 f0, .int .u8 f1, .int .u8 f2, .int .u8 f3]] w fun e w' => e = .returned (.tuple #[]) ∧ Row w' g (u8s (setL xs off (mixL [f0, f1, f2, f3] ((xs.drop off).take 4)))) ∧ KB w.heap.size g w w' := by
  have hg := hx.lt
  obtain ⟨S, hS⟩ : ∃ S, S = (xs.drop off).take 4 := ⟨_, rfl⟩
  obtain ⟨F, hF⟩ : ∃ F, F = [f0, f1, f2, f3] := ⟨_, rfl⟩
  have hS0 : ∀ j, j < 4 → xs.getD (off + j) 0 = S.getD j 0 := by
    intro j hj
    rw [hS]
    simp [List.getD_eq_getElem?_getD, hj]
  have hSb : ∀ j, j < 4 → 0 ≤ S.getD j 0 ∧ S.getD j 0 ≤ 255 := by
    intro j hj
    rw [← hS0 j hj, List.getD_eq_getElem?_getD, List.getElem?_eq_getElem (by omega)]
    exact hs _ (List.getElem_mem _)
  have HS := Lib.hid hS0
  have HSb := Lib.hid hSb
  have HF := Lib.hid hF
  rw [← hS, ← hF]
  clear hS hS0 hSb hF hs
  have r1 := (Row.new w #[.int .u8 f0, .int .u8 f1, .int .u8 f2, .int .u8 f3] 50).alloc (.cells #[.int .u8 0, .int .u8 0, .int .u8 0, .int .u8 0] 50)
  have r2 := Row.new (w.alloc (.cells #[.int .u8 f0, .int .u8 f1, .int .u8 f2, .int .u8 f3] 50)) #[.int .u8 0, .int .u8 0, .int .u8 0, .int .u8 0] 50
  have rb : KB w.heap.size g w ((w.alloc (.cells #[.int .u8 f0, .int .u8 f1, .int .u8 f2, .int .u8 f3] 50)).alloc (.cells #[.int .u8 0, .int .u8 0, .int .u8 0, .int .u8 0] 50)) :=
    ((KB.refl _ _ _).alloc (Nat.le_refl _) _).alloc (by simp) _
  have rx : Row ((w.alloc (.cells #[.int .u8 f0, .int .u8 f1, .int .u8 f2, .int .u8 f3] 50)).alloc (.cells #[.int .u8 0, .int .u8 0, .int .u8 0, .int .u8 0] 50)) g (u8s xs) := (hx.alloc _).alloc _
  have e0 : (w.alloc (.cells #[.int .u8 f0, .int .u8 f1, .int .u8 f2, .int .u8 f3] 50)).heap.size = w.heap.size + 1 := by simp
  rw [e0] at r2
  have r2' : Row ((w.alloc (.cells #[.int .u8 f0, .int .u8 f1, .int .u8 f2, .int .u8 f3] 50)).alloc (.cells #[.int .u8 0, .int .u8 0, .int .u8 0, .int .u8 0] 50)) (w.heap.size + 1) (u8s (mixTo F S 0 0)) := r2
  have Hr := Lib.hid (And.intro r1 (And.intro r2' (And.intro rx rb)))
  clear r1 r2 r2' rx rb e0 hx
  go_enter Try.func48, Try.ntmps48
  go_wp2
  go_loopw [9] (fun v wr => ∃ (i : Nat) (iI : Int), iI = i ∧ i ≤ 4 ∧ v = .int .i64 iI ∧ Row wr w.heap.size [.int .u8 f0, .int .u8 f1, .int .u8 f2, .int .u8 f3] ∧ Row wr (w.heap.size + 1) (u8s (mixTo F S i 0)) ∧ Row wr g (u8s xs) ∧ KB w.heap.size g w wr) (fun v _ => 4 - (intOf v).toNat)
  case atStart => exact ⟨0, 0, rfl, by omega, rfl, Hr.out.1, Hr.out.2.1, Hr.out.2.2.1, Hr.out.2.2.2⟩
  case round =>
    clear Hr
    obtain ⟨i, iI, hiI, hi, rfl, ho, hr, hxr, hbl⟩ := hrel
    by_cases hlt : i < 4
    · have c0 := ho.cell (i := 0) (v := .int .u8 f0) rfl
      have c1 := ho.cell (i := 1) (v := .int .u8 f1) rfl
      have c2 := ho.cell (i := 2) (v := .int .u8 f2) rfl
      have c3 := ho.cell (i := 3) (v := .int .u8 f3) rfl
      rcases (show i = 0 ∨ i = 1 ∨ i = 2 ∨ i = 3 by omega) with rfl | rfl | rfl | rfl
      · obtain rfl : iI = 0 := by omega
        clear hiI
        go_wp2
        obtain ⟨wo, rfl⟩ : ∃ wo : World, wo = wr := ⟨_, rfl⟩
        go_loopw [13] (fun v wr => ∃ (k : Nat) (kI : Int), kI = k ∧ k ≤ 4 ∧ v = .int .i64 kI ∧ Row wr w.heap.size [.int .u8 f0, .int .u8 f1, .int .u8 f2, .int .u8 f3] ∧ Row wr (w.heap.size + 1) (u8s (mixTo F S 0 k)) ∧ Row wr g (u8s xs) ∧ KB w.heap.size g w wr) (fun v _ => 4 - (intOf v).toNat)
        case atStart => exact ⟨0, 0, rfl, by omega, rfl, ho, hr, hxr, hbl⟩
        case round =>
          clear c0 c1 c2 c3 ho hr hxr hbl
          obtain ⟨k, kI, hkI, hk4, rfl, ho, hr, hxr, hbl⟩ := hrel
          rcases (show k = 0 ∨ k = 1 ∨ k = 2 ∨ k = 3 ∨ k = 4 by omega) with rfl | rfl | rfl | rfl | rfl
          · obtain rfl : kI = 0 := by omega
            clear hkI
            have hw1 : IntKind.i64.wrap 0 = 0 := by kernel_rfl
            have hw2 : Int.tmod 0 4 = 0 := by kernel_rfl
            have i0 : ∀ w, (Instr.index 50 (.agg #[.int .u8 f0, .int .u8 f1, .int .u8 f2, .int .u8 f3]) (.int .i64 0)).run Try.prog w = .ok (.int .u8 f0) w := fun _ => by kernel_rfl
            have hcell := hr.cell (u8s_at (xs := mixTo F S 0 0) (i := 0) (by rw [mixTo_length]; omega))
            have hfree := hr.free (i := 0) (by rw [u8s_length, mixTo_length]; omega)
            rw [mixTo_at F S 0 0 (by omega)] at hcell
            have hxc := hxr.cell (u8s_at (xs := xs) (i := off + 0) (by omega))
            rw [HS.out 0 (by omega)] at hxc
            obtain ⟨hb0, hb1⟩ := HSb.out 0 (by omega)
            obtain ⟨a, ha⟩ : ∃ a, a = mixAt F S 0 0 := ⟨_, rfl⟩
            obtain ⟨b, hb⟩ : ∃ b, b = S.getD 0 0 := ⟨_, rfl⟩
            rw [← ha] at hcell
            rw [← hb] at hxc hb0 hb1
            have e : (mixTo F S 0 0).set 0 (bits .xor .u8 a (gm f0 b)) = mixTo F S 0 (0 + 1) := by
              rw [← mixTo_set F S 0 0 (by omega), mixAt, ha, hb, HF.out]
              rfl
            have E := Lib.hid e
            clear ha hb e
            try simp only [Nat.add_zero] at hxc
            go_wp2
            refine wp_region_still_tail 14 (by kernel_rfl) (by kernel_rfl) ?_
            simp only [List.take_succ_cons, List.take_zero, List.drop_succ_cons, List.drop_zero]
            repeat still_step
            still_call ((mulGf_any _ _ _ hb0 hb1).mono fun e w' h => ⟨h.1, h.2.symm⟩)
            repeat still_step
            refine wpStill_nil ?_
            change wpList _ _ _ _ _ wr.drew
            go_wp2
            go_roundw
            case rel =>
              refine ⟨0 + 1, 0 + 1, rfl, by omega, rfl, (ho.other (by simp) _).drew, ?_, (hxr.other (by simp; omega) _).drew, (hbl.set (.inr (by simp)) _).drew⟩
              have h2 := hr.set (i := 0) (by rw [u8s_length, mixTo_length]; omega) (.int .u8 (bits .xor .u8 a (gm f0 b)))
              rw [u8s_set, E.out] at h2
              exact h2.drew
            case measure => simp [intOf]
          · obtain rfl : kI = 1 := by omega
            clear hkI
            have hw1 : IntKind.i64.wrap 1 = 1 := by kernel_rfl
            have hw2 : Int.tmod 1 4 = 1 := by kernel_rfl
            have i0 : ∀ w, (Instr.index 50 (.agg #[.int .u8 f0, .int .u8 f1, .int .u8 f2, .int .u8 f3]) (.int .i64 1)).run Try.prog w = .ok (.int .u8 f1) w := fun _ => by kernel_rfl
            have hcell := hr.cell (u8s_at (xs := mixTo F S 0 1) (i := 0) (by rw [mixTo_length]; omega))
            have hfree := hr.free (i := 0) (by rw [u8s_length, mixTo_length]; omega)
            rw [mixTo_at F S 0 1 (by omega)] at hcell
            have hxc := hxr.cell (u8s_at (xs := xs) (i := off + 1) (by omega))
            rw [HS.out 1 (by omega)] at hxc
            obtain ⟨hb0, hb1⟩ := HSb.out 1 (by omega)
            obtain ⟨a, ha⟩ : ∃ a, a = mixAt F S 0 1 := ⟨_, rfl⟩
            obtain ⟨b, hb⟩ : ∃ b, b = S.getD 1 0 := ⟨_, rfl⟩
            rw [← ha] at hcell
            rw [← hb] at hxc hb0 hb1
            have e : (mixTo F S 0 1).set 0 (bits .xor .u8 a (gm f1 b)) = mixTo F S 0 (1 + 1) := by
              rw [← mixTo_set F S 0 1 (by omega), mixAt, ha, hb, HF.out]
              rfl
            have E := Lib.hid e
            clear ha hb e
            try simp only [Nat.add_zero] at hxc
            go_wp2
            refine wp_region_still_tail 14 (by kernel_rfl) (by kernel_rfl) ?_
            simp only [List.take_succ_cons, List.take_zero, List.drop_succ_cons, List.drop_zero]
            repeat still_step
            still_call ((mulGf_any _ _ _ hb0 hb1).mono fun e w' h => ⟨h.1, h.2.symm⟩)
            repeat still_step
            refine wpStill_nil ?_
            change wpList _ _ _ _ _ wr.drew
            go_wp2
            go_roundw
            case rel =>
              refine ⟨1 + 1, 1 + 1, rfl, by omega, rfl, (ho.other (by simp) _).drew, ?_, (hxr.other (by simp; omega) _).drew, (hbl.set (.inr (by simp)) _).drew⟩
              have h2 := hr.set (i := 0) (by rw [u8s_length, mixTo_length]; omega) (.int .u8 (bits .xor .u8 a (gm f1 b)))
              rw [u8s_set, E.out] at h2
              exact h2.drew
            case measure => simp [intOf]
          · obtain rfl : kI = 2 := by omega
            clear hkI
            have hw1 : IntKind.i64.wrap 2 = 2 := by kernel_rfl
            have hw2 : Int.tmod 2 4 = 2 := by kernel_rfl
            have i0 : ∀ w, (Instr.index 50 (.agg #[.int .u8 f0, .int .u8 f1, .int .u8 f2, .int .u8 f3]) (.int .i64 2)).run Try.prog w = .ok (.int .u8 f2) w := fun _ => by kernel_rfl
            have hcell := hr.cell (u8s_at (xs := mixTo F S 0 2) (i := 0) (by rw [mixTo_length]; omega))
            have hfree := hr.free (i := 0) (by rw [u8s_length, mixTo_length]; omega)
            rw [mixTo_at F S 0 2 (by omega)] at hcell
            have hxc := hxr.cell (u8s_at (xs := xs) (i := off + 2) (by omega))
            rw [HS.out 2 (by omega)] at hxc
            obtain ⟨hb0, hb1⟩ := HSb.out 2 (by omega)
            obtain ⟨a, ha⟩ : ∃ a, a = mixAt F S 0 2 := ⟨_, rfl⟩
            obtain ⟨b, hb⟩ : ∃ b, b = S.getD 2 0 := ⟨_, rfl⟩
            rw [← ha] at hcell
            rw [← hb] at hxc hb0 hb1
            have e : (mixTo F S 0 2).set 0 (bits .xor .u8 a (gm f2 b)) = mixTo F S 0 (2 + 1) := by
              rw [← mixTo_set F S 0 2 (by omega), mixAt, ha, hb, HF.out]
              rfl
            have E := Lib.hid e
            clear ha hb e
            try simp only [Nat.add_zero] at hxc
            go_wp2
            refine wp_region_still_tail 14 (by kernel_rfl) (by kernel_rfl) ?_
            simp only [List.take_succ_cons, List.take_zero, List.drop_succ_cons, List.drop_zero]
            repeat still_step
            still_call ((mulGf_any _ _ _ hb0 hb1).mono fun e w' h => ⟨h.1, h.2.symm⟩)
            repeat still_step
            refine wpStill_nil ?_
            change wpList _ _ _ _ _ wr.drew
            go_wp2
            go_roundw
            case rel =>
              refine ⟨2 + 1, 2 + 1, rfl, by omega, rfl, (ho.other (by simp) _).drew, ?_, (hxr.other (by simp; omega) _).drew, (hbl.set (.inr (by simp)) _).drew⟩
              have h2 := hr.set (i := 0) (by rw [u8s_length, mixTo_length]; omega) (.int .u8 (bits .xor .u8 a (gm f2 b)))
              rw [u8s_set, E.out] at h2
              exact h2.drew
            case measure => simp [intOf]
          · obtain rfl : kI = 3 := by omega
            clear hkI
            have hw1 : IntKind.i64.wrap 3 = 3 := by kernel_rfl
            have hw2 : Int.tmod 3 4 = 3 := by kernel_rfl
            have i0 : ∀ w, (Instr.index 50 (.agg #[.int .u8 f0, .int .u8 f1, .int .u8 f2, .int .u8 f3]) (.int .i64 3)).run Try.prog w = .ok (.int .u8 f3) w := fun _ => by kernel_rfl
            have hcell := hr.cell (u8s_at (xs := mixTo F S 0 3) (i := 0) (by rw [mixTo_length]; omega))
            have hfree := hr.free (i := 0) (by rw [u8s_length, mixTo_length]; omega)
            rw [mixTo_at F S 0 3 (by omega)] at hcell
            have hxc := hxr.cell (u8s_at (xs := xs) (i := off + 3) (by omega))
            rw [HS.out 3 (by omega)] at hxc
            obtain ⟨hb0, hb1⟩ := HSb.out 3 (by omega)
            obtain ⟨a, ha⟩ : ∃ a, a = mixAt F S 0 3 := ⟨_, rfl⟩
            obtain ⟨b, hb⟩ : ∃ b, b = S.getD 3 0 := ⟨_, rfl⟩
            rw [← ha] at hcell
            rw [← hb] at hxc hb0 hb1
            have e : (mixTo F S 0 3).set 0 (bits .xor .u8 a (gm f3 b)) = mixTo F S 0 (3 + 1) := by
              rw [← mixTo_set F S 0 3 (by omega), mixAt, ha, hb, HF.out]
              rfl
            have E := Lib.hid e
            clear ha hb e
            try simp only [Nat.add_zero] at hxc
            go_wp2
            refine wp_region_still_tail 14 (by kernel_rfl) (by kernel_rfl) ?_
            simp only [List.take_succ_cons, List.take_zero, List.drop_succ_cons, List.drop_zero]
            repeat still_step
            still_call ((mulGf_any _ _ _ hb0 hb1).mono fun e w' h => ⟨h.1, h.2.symm⟩)
            repeat still_step
            refine wpStill_nil ?_
            change wpList _ _ _ _ _ wr.drew
            go_wp2
            go_roundw
            case rel =>
              refine ⟨3 + 1, 3 + 1, rfl, by omega, rfl, (ho.other (by simp) _).drew, ?_, (hxr.other (by simp; omega) _).drew, (hbl.set (.inr (by simp)) _).drew⟩
              have h2 := hr.set (i := 0) (by rw [u8s_length, mixTo_length]; omega) (.int .u8 (bits .xor .u8 a (gm f3 b)))
              rw [u8s_set, E.out] at h2
              exact h2.drew
            case measure => simp [intOf]
          · obtain rfl : kI = 4 := by omega
            clear hkI
            rw [mixTo_next F S 0 (by omega)] at hr
            go_wp2
            go_roundw
            case rel => exact ⟨0 + 1, 0 + 1, rfl, by omega, rfl, ho, hr, hxr, hbl⟩
            case measure => simp [intOf]
      · obtain rfl : iI = 1 := by omega
        clear hiI
        go_wp2
        obtain ⟨wo, rfl⟩ : ∃ wo : World, wo = wr := ⟨_, rfl⟩
        go_loopw [13] (fun v wr => ∃ (k : Nat) (kI : Int), kI = k ∧ k ≤ 4 ∧ v = .int .i64 kI ∧ Row wr w.heap.size [.int .u8 f0, .int .u8 f1, .int .u8 f2, .int .u8 f3] ∧ Row wr (w.heap.size + 1) (u8s (mixTo F S 1 k)) ∧ Row wr g (u8s xs) ∧ KB w.heap.size g w wr) (fun v _ => 4 - (intOf v).toNat)
        case atStart => exact ⟨0, 0, rfl, by omega, rfl, ho, hr, hxr, hbl⟩
        case round =>
          clear c0 c1 c2 c3 ho hr hxr hbl
          obtain ⟨k, kI, hkI, hk4, rfl, ho, hr, hxr, hbl⟩ := hrel
          rcases (show k = 0 ∨ k = 1 ∨ k = 2 ∨ k = 3 ∨ k = 4 by omega) with rfl | rfl | rfl | rfl | rfl
          · obtain rfl : kI = 0 := by omega
            clear hkI
            have hw1 : IntKind.i64.wrap 1 = 1 := by kernel_rfl
            have hw2 : Int.tmod 1 4 = 1 := by kernel_rfl
            have i0 : ∀ w, (Instr.index 50 (.agg #[.int .u8 f0, .int .u8 f1, .int .u8 f2, .int .u8 f3]) (.int .i64 0)).run Try.prog w = .ok (.int .u8 f0) w := fun _ => by kernel_rfl
            have hcell := hr.cell (u8s_at (xs := mixTo F S 1 0) (i := 1) (by rw [mixTo_length]; omega))
            have hfree := hr.free (i := 1) (by rw [u8s_length, mixTo_length]; omega)
            rw [mixTo_at F S 1 0 (by omega)] at hcell
            have hxc := hxr.cell (u8s_at (xs := xs) (i := off + 1) (by omega))
            rw [HS.out 1 (by omega)] at hxc
            obtain ⟨hb0, hb1⟩ := HSb.out 1 (by omega)
            obtain ⟨a, ha⟩ : ∃ a, a = mixAt F S 1 0 := ⟨_, rfl⟩
            obtain ⟨b, hb⟩ : ∃ b, b = S.getD 1 0 := ⟨_, rfl⟩
            rw [← ha] at hcell
            rw [← hb] at hxc hb0 hb1
            have e : (mixTo F S 1 0).set 1 (bits .xor .u8 a (gm f0 b)) = mixTo F S 1 (0 + 1) := by
              rw [← mixTo_set F S 1 0 (by omega), mixAt, ha, hb, HF.out]
              rfl
            have E := Lib.hid e
            clear ha hb e
            try simp only [Nat.add_zero] at hxc
            go_wp2
            refine wp_region_still_tail 14 (by kernel_rfl) (by kernel_rfl) ?_
            simp only [List.take_succ_cons, List.take_zero, List.drop_succ_cons, List.drop_zero]
            repeat still_step
            still_call ((mulGf_any _ _ _ hb0 hb1).mono fun e w' h => ⟨h.1, h.2.symm⟩)
            repeat still_step
            refine wpStill_nil ?_
            change wpList _ _ _ _ _ wr.drew
            go_wp2
            go_roundw
            case rel =>
              refine ⟨0 + 1, 0 + 1, rfl, by omega, rfl, (ho.other (by simp) _).drew, ?_, (hxr.other (by simp; omega) _).drew, (hbl.set (.inr (by simp)) _).drew⟩
              have h2 := hr.set (i := 1) (by rw [u8s_length, mixTo_length]; omega) (.int .u8 (bits .xor .u8 a (gm f0 b)))
              rw [u8s_set, E.out] at h2
              exact h2.drew
            case measure => simp [intOf]
          · obtain rfl : kI = 1 := by omega
            clear hkI
            have hw1 : IntKind.i64.wrap 2 = 2 := by kernel_rfl
            have hw2 : Int.tmod 2 4 = 2 := by kernel_rfl
            have i0 : ∀ w, (Instr.index 50 (.agg #[.int .u8 f0, .int .u8 f1, .int .u8 f2, .int .u8 f3]) (.int .i64 1)).run Try.prog w = .ok (.int .u8 f1) w := fun _ => by kernel_rfl
            have hcell := hr.cell (u8s_at (xs := mixTo F S 1 1) (i := 1) (by rw [mixTo_length]; omega))
            have hfree := hr.free (i := 1) (by rw [u8s_length, mixTo_length]; omega)
            rw [mixTo_at F S 1 1 (by omega)] at hcell
            have hxc := hxr.cell (u8s_at (xs := xs) (i := off + 2) (by omega))
            rw [HS.out 2 (by omega)] at hxc
            obtain ⟨hb0, hb1⟩ := HSb.out 2 (by omega)
            obtain ⟨a, ha⟩ : ∃ a, a = mixAt F S 1 1 := ⟨_, rfl⟩
            obtain ⟨b, hb⟩ : ∃ b, b = S.getD 2 0 := ⟨_, rfl⟩
            rw [← ha] at hcell
            rw [← hb] at hxc hb0 hb1
            have e : (mixTo F S 1 1).set 1 (bits .xor .u8 a (gm f1 b)) = mixTo F S 1 (1 + 1) := by
              rw [← mixTo_set F S 1 1 (by omega), mixAt, ha, hb, HF.out]
              rfl
            have E := Lib.hid e
            clear ha hb e
            try simp only [Nat.add_zero] at hxc
            go_wp2
            refine wp_region_still_tail 14 (by kernel_rfl) (by kernel_rfl) ?_
            simp only [List.take_succ_cons, List.take_zero, List.drop_succ_cons, List.drop_zero]
            repeat still_step
            still_call ((mulGf_any _ _ _ hb0 hb1).mono fun e w' h => ⟨h.1, h.2.symm⟩)
            repeat still_step
            refine wpStill_nil ?_
            change wpList _ _ _ _ _ wr.drew
            go_wp2
            go_roundw
            case rel =>
              refine ⟨1 + 1, 1 + 1, rfl, by omega, rfl, (ho.other (by simp) _).drew, ?_, (hxr.other (by simp; omega) _).drew, (hbl.set (.inr (by simp)) _).drew⟩
              have h2 := hr.set (i := 1) (by rw [u8s_length, mixTo_length]; omega) (.int .u8 (bits .xor .u8 a (gm f1 b)))
              rw [u8s_set, E.out] at h2
              exact h2.drew
            case measure => simp [intOf]
          · obtain rfl : kI = 2 := by omega
            clear hkI
            have hw1 : IntKind.i64.wrap 3 = 3 := by kernel_rfl
            have hw2 : Int.tmod 3 4 = 3 := by kernel_rfl
            have i0 : ∀ w, (Instr.index 50 (.agg #[.int .u8 f0, .int .u8 f1, .int .u8 f2, .int .u8 f3]) (.int .i64 2)).run Try.prog w = .ok (.int .u8 f2) w := fun _ => by kernel_rfl
            have hcell := hr.cell (u8s_at (xs := mixTo F S 1 2) (i := 1) (by rw [mixTo_length]; omega))
            have hfree := hr.free (i := 1) (by rw [u8s_length, mixTo_length]; omega)
            rw [mixTo_at F S 1 2 (by omega)] at hcell
            have hxc := hxr.cell (u8s_at (xs := xs) (i := off + 3) (by omega))
            rw [HS.out 3 (by omega)] at hxc
            obtain ⟨hb0, hb1⟩ := HSb.out 3 (by omega)
            obtain ⟨a, ha⟩ : ∃ a, a = mixAt F S 1 2 := ⟨_, rfl⟩
            obtain ⟨b, hb⟩ : ∃ b, b = S.getD 3 0 := ⟨_, rfl⟩
            rw [← ha] at hcell
            rw [← hb] at hxc hb0 hb1
            have e : (mixTo F S 1 2).set 1 (bits .xor .u8 a (gm f2 b)) = mixTo F S 1 (2 + 1) := by
              rw [← mixTo_set F S 1 2 (by omega), mixAt, ha, hb, HF.out]
              rfl
            have E := Lib.hid e
            clear ha hb e
            try simp only [Nat.add_zero] at hxc
            go_wp2
            refine wp_region_still_tail 14 (by kernel_rfl) (by kernel_rfl) ?_
            simp only [List.take_succ_cons, List.take_zero, List.drop_succ_cons, List.drop_zero]
            repeat still_step
            still_call ((mulGf_any _ _ _ hb0 hb1).mono fun e w' h => ⟨h.1, h.2.symm⟩)
            repeat still_step
            refine wpStill_nil ?_
            change wpList _ _ _ _ _ wr.drew
            go_wp2
            go_roundw
            case rel =>
              refine ⟨2 + 1, 2 + 1, rfl, by omega, rfl, (ho.other (by simp) _).drew, ?_, (hxr.other (by simp; omega) _).drew, (hbl.set (.inr (by simp)) _).drew⟩
              have h2 := hr.set (i := 1) (by rw [u8s_length, mixTo_length]; omega) (.int .u8 (bits .xor .u8 a (gm f2 b)))
              rw [u8s_set, E.out] at h2
              exact h2.drew
            case measure => simp [intOf]
          · obtain rfl : kI = 3 := by omega
            clear hkI
            have hw1 : IntKind.i64.wrap 4 = 4 := by kernel_rfl
            have hw2 : Int.tmod 4 4 = 0 := by kernel_rfl
            have i0 : ∀ w, (Instr.index 50 (.agg #[.int .u8 f0, .int .u8 f1, .int .u8 f2, .int .u8 f3]) (.int .i64 3)).run Try.prog w = .ok (.int .u8 f3) w := fun _ => by kernel_rfl
            have hcell := hr.cell (u8s_at (xs := mixTo F S 1 3) (i := 1) (by rw [mixTo_length]; omega))
            have hfree := hr.free (i := 1) (by rw [u8s_length, mixTo_length]; omega)
            rw [mixTo_at F S 1 3 (by omega)] at hcell
            have hxc := hxr.cell (u8s_at (xs := xs) (i := off + 0) (by omega))
            rw [HS.out 0 (by omega)] at hxc
            obtain ⟨hb0, hb1⟩ := HSb.out 0 (by omega)
            obtain ⟨a, ha⟩ : ∃ a, a = mixAt F S 1 3 := ⟨_, rfl⟩
            obtain ⟨b, hb⟩ : ∃ b, b = S.getD 0 0 := ⟨_, rfl⟩
            rw [← ha] at hcell
            rw [← hb] at hxc hb0 hb1
            have e : (mixTo F S 1 3).set 1 (bits .xor .u8 a (gm f3 b)) = mixTo F S 1 (3 + 1) := by
              rw [← mixTo_set F S 1 3 (by omega), mixAt, ha, hb, HF.out]
              rfl
            have E := Lib.hid e
            clear ha hb e
            try simp only [Nat.add_zero] at hxc
            go_wp2
            refine wp_region_still_tail 14 (by kernel_rfl) (by kernel_rfl) ?_
            simp only [List.take_succ_cons, List.take_zero, List.drop_succ_cons, List.drop_zero]
            repeat still_step
            still_call ((mulGf_any _ _ _ hb0 hb1).mono fun e w' h => ⟨h.1, h.2.symm⟩)
            repeat still_step
            refine wpStill_nil ?_
            change wpList _ _ _ _ _ wr.drew
            go_wp2
            go_roundw
            case rel =>
              refine ⟨3 + 1, 3 + 1, rfl, by omega, rfl, (ho.other (by simp) _).drew, ?_, (hxr.other (by simp; omega) _).drew, (hbl.set (.inr (by simp)) _).drew⟩
              have h2 := hr.set (i := 1) (by rw [u8s_length, mixTo_length]; omega) (.int .u8 (bits .xor .u8 a (gm f3 b)))
              rw [u8s_set, E.out] at h2
              exact h2.drew
            case measure => simp [intOf]
          · obtain rfl : kI = 4 := by omega
            clear hkI
            rw [mixTo_next F S 1 (by omega)] at hr
            go_wp2
            go_roundw
            case rel => exact ⟨1 + 1, 1 + 1, rfl, by omega, rfl, ho, hr, hxr, hbl⟩
            case measure => simp [intOf]
      · obtain rfl : iI = 2 := by omega
        clear hiI
        go_wp2
        obtain ⟨wo, rfl⟩ : ∃ wo : World, wo = wr := ⟨_, rfl⟩
        go_loopw [13] (fun v wr => ∃ (k : Nat) (kI : Int), kI = k ∧ k ≤ 4 ∧ v = .int .i64 kI ∧ Row wr w.heap.size [.int .u8 f0, .int .u8 f1, .int .u8 f2, .int .u8 f3] ∧ Row wr (w.heap.size + 1) (u8s (mixTo F S 2 k)) ∧ Row wr g (u8s xs) ∧ KB w.heap.size g w wr) (fun v _ => 4 - (intOf v).toNat)
        case atStart => exact ⟨0, 0, rfl, by omega, rfl, ho, hr, hxr, hbl⟩
        case round =>
          clear c0 c1 c2 c3 ho hr hxr hbl
          obtain ⟨k, kI, hkI, hk4, rfl, ho, hr, hxr, hbl⟩ := hrel
          rcases (show k = 0 ∨ k = 1 ∨ k = 2 ∨ k = 3 ∨ k = 4 by omega) with rfl | rfl | rfl | rfl | rfl
          · obtain rfl : kI = 0 := by omega
            clear hkI
            have hw1 : IntKind.i64.wrap 2 = 2 := by kernel_rfl
            have hw2 : Int.tmod 2 4 = 2 := by kernel_rfl
            have i0 : ∀ w, (Instr.index 50 (.agg #[.int .u8 f0, .int .u8 f1, .int .u8 f2, .int .u8 f3]) (.int .i64 0)).run Try.prog w = .ok (.int .u8 f0) w := fun _ => by kernel_rfl
            have hcell := hr.cell (u8s_at (xs := mixTo F S 2 0) (i := 2) (by rw [mixTo_length]; omega))
            have hfree := hr.free (i := 2) (by rw [u8s_length, mixTo_length]; omega)
            rw [mixTo_at F S 2 0 (by omega)] at hcell
            have hxc := hxr.cell (u8s_at (xs := xs) (i := off + 2) (by omega))
            rw [HS.out 2 (by omega)] at hxc
            obtain ⟨hb0, hb1⟩ := HSb.out 2 (by omega)
            obtain ⟨a, ha⟩ : ∃ a, a = mixAt F S 2 0 := ⟨_, rfl⟩
            obtain ⟨b, hb⟩ : ∃ b, b = S.getD 2 0 := ⟨_, rfl⟩
            rw [← ha] at hcell
            rw [← hb] at hxc hb0 hb1
            have e : (mixTo F S 2 0).set 2 (bits .xor .u8 a (gm f0 b)) = mixTo F S 2 (0 + 1) := by
              rw [← mixTo_set F S 2 0 (by omega), mixAt, ha, hb, HF.out]
              rfl
            have E := Lib.hid e
            clear ha hb e
            try simp only [Nat.add_zero] at hxc
            go_wp2
            refine wp_region_still_tail 14 (by kernel_rfl) (by kernel_rfl) ?_
            simp only [List.take_succ_cons, List.take_zero, List.drop_succ_cons, List.drop_zero]
            repeat still_step
            still_call ((mulGf_any _ _ _ hb0 hb1).mono fun e w' h => ⟨h.1, h.2.symm⟩)
            repeat still_step
            refine wpStill_nil ?_
            change wpList _ _ _ _ _ wr.drew
            go_wp2
            go_roundw
            case rel =>
              refine ⟨0 + 1, 0 + 1, rfl, by omega, rfl, (ho.other (by simp) _).drew, ?_, (hxr.other (by simp; omega) _).drew, (hbl.set (.inr (by simp)) _).drew⟩
              have h2 := hr.set (i := 2) (by rw [u8s_length, mixTo_length]; omega) (.int .u8 (bits .xor .u8 a (gm f0 b)))
              rw [u8s_set, E.out] at h2
              exact h2.drew
            case measure => simp [intOf]
          · obtain rfl : kI = 1 := by omega
            clear hkI
            have hw1 : IntKind.i64.wrap 3 = 3 := by kernel_rfl
            have hw2 : Int.tmod 3 4 = 3 := by kernel_rfl
            have i0 : ∀ w, (Instr.index 50 (.agg #[.int .u8 f0, .int .u8 f1, .int .u8 f2, .int .u8 f3]) (.int .i64 1)).run Try.prog w = .ok (.int .u8 f1) w := fun _ => by kernel_rfl
            have hcell := hr.cell (u8s_at (xs := mixTo F S 2 1) (i := 2) (by rw [mixTo_length]; omega))
            have hfree := hr.free (i := 2) (by rw [u8s_length, mixTo_length]; omega)
            rw [mixTo_at F S 2 1 (by omega)] at hcell
            have hxc := hxr.cell (u8s_at (xs := xs) (i := off + 3) (by omega))
            rw [HS.out 3 (by omega)] at hxc
            obtain ⟨hb0, hb1⟩ := HSb.out 3 (by omega)
            obtain ⟨a, ha⟩ : ∃ a, a = mixAt F S 2 1 := ⟨_, rfl⟩
            obtain ⟨b, hb⟩ : ∃ b, b = S.getD 3 0 := ⟨_, rfl⟩
            rw [← ha] at hcell
            rw [← hb] at hxc hb0 hb1
            have e : (mixTo F S 2 1).set 2 (bits .xor .u8 a (gm f1 b)) = mixTo F S 2 (1 + 1) := by
              rw [← mixTo_set F S 2 1 (by omega), mixAt, ha, hb, HF.out]
              rfl
            have E := Lib.hid e
            clear ha hb e
            try simp only [Nat.add_zero] at hxc
            go_wp2
            refine wp_region_still_tail 14 (by kernel_rfl) (by kernel_rfl) ?_
            simp only [List.take_succ_cons, List.take_zero, List.drop_succ_cons, List.drop_zero]
            repeat still_step
            still_call ((mulGf_any _ _ _ hb0 hb1).mono fun e w' h => ⟨h.1, h.2.symm⟩)
            repeat still_step
            refine wpStill_nil ?_
            change wpList _ _ _ _ _ wr.drew
            go_wp2
            go_roundw
            case rel =>
              refine ⟨1 + 1, 1 + 1, rfl, by omega, rfl, (ho.other (by simp) _).drew, ?_, (hxr.other (by simp; omega) _).drew, (hbl.set (.inr (by simp)) _).drew⟩
              have h2 := hr.set (i := 2) (by rw [u8s_length, mixTo_length]; omega) (.int .u8 (bits .xor .u8 a (gm f1 b)))
              rw [u8s_set, E.out] at h2
              exact h2.drew
            case measure => simp [intOf]
          · obtain rfl : kI = 2 := by omega
            clear hkI
            have hw1 : IntKind.i64.wrap 4 = 4 := by kernel_rfl
            have hw2 : Int.tmod 4 4 = 0 := by kernel_rfl
            have i0 : ∀ w, (Instr.index 50 (.agg #[.int .u8 f0, .int .u8 f1, .int .u8 f2, .int .u8 f3]) (.int .i64 2)).run Try.prog w = .ok (.int .u8 f2) w := fun _ => by kernel_rfl
            have hcell := hr.cell (u8s_at (xs := mixTo F S 2 2) (i := 2) (by rw [mixTo_length]; omega))
            have hfree := hr.free (i := 2) (by rw [u8s_length, mixTo_length]; omega)
            rw [mixTo_at F S 2 2 (by omega)] at hcell
            have hxc := hxr.cell (u8s_at (xs := xs) (i := off + 0) (by omega))
            rw [HS.out 0 (by omega)] at hxc
            obtain ⟨hb0, hb1⟩ := HSb.out 0 (by omega)
            obtain ⟨a, ha⟩ : ∃ a, a = mixAt F S 2 2 := ⟨_, rfl⟩
            obtain ⟨b, hb⟩ : ∃ b, b = S.getD 0 0 := ⟨_, rfl⟩
            rw [← ha] at hcell
            rw [← hb] at hxc hb0 hb1
            have e : (mixTo F S 2 2).set 2 (bits .xor .u8 a (gm f2 b)) = mixTo F S 2 (2 + 1) := by
              rw [← mixTo_set F S 2 2 (by omega), mixAt, ha, hb, HF.out]
              rfl
            have E := Lib.hid e
            clear ha hb e
            try simp only [Nat.add_zero] at hxc
            go_wp2
            refine wp_region_still_tail 14 (by kernel_rfl) (by kernel_rfl) ?_
            simp only [List.take_succ_cons, List.take_zero, List.drop_succ_cons, List.drop_zero]
            repeat still_step
            still_call ((mulGf_any _ _ _ hb0 hb1).mono fun e w' h => ⟨h.1, h.2.symm⟩)
            repeat still_step
            refine wpStill_nil ?_
            change wpList _ _ _ _ _ wr.drew
            go_wp2
            go_roundw
            case rel =>
              refine ⟨2 + 1, 2 + 1, rfl, by omega, rfl, (ho.other (by simp) _).drew, ?_, (hxr.other (by simp; omega) _).drew, (hbl.set (.inr (by simp)) _).drew⟩
              have h2 := hr.set (i := 2) (by rw [u8s_length, mixTo_length]; omega) (.int .u8 (bits .xor .u8 a (gm f2 b)))
              rw [u8s_set, E.out] at h2
              exact h2.drew
            case measure => simp [intOf]
          · obtain rfl : kI = 3 := by omega
            clear hkI
            have hw1 : IntKind.i64.wrap 5 = 5 := by kernel_rfl
            have hw2 : Int.tmod 5 4 = 1 := by kernel_rfl
            have i0 : ∀ w, (Instr.index 50 (.agg #[.int .u8 f0, .int .u8 f1, .int .u8 f2, .int .u8 f3]) (.int .i64 3)).run Try.prog w = .ok (.int .u8 f3) w := fun _ => by kernel_rfl
            have hcell := hr.cell (u8s_at (xs := mixTo F S 2 3) (i := 2) (by rw [mixTo_length]; omega))
            have hfree := hr.free (i := 2) (by rw [u8s_length, mixTo_length]; omega)
            rw [mixTo_at F S 2 3 (by omega)] at hcell
            have hxc := hxr.cell (u8s_at (xs := xs) (i := off + 1) (by omega))
            rw [HS.out 1 (by omega)] at hxc
            obtain ⟨hb0, hb1⟩ := HSb.out 1 (by omega)
            obtain ⟨a, ha⟩ : ∃ a, a = mixAt F S 2 3 := ⟨_, rfl⟩
            obtain ⟨b, hb⟩ : ∃ b, b = S.getD 1 0 := ⟨_, rfl⟩
            rw [← ha] at hcell
            rw [← hb] at hxc hb0 hb1
            have e : (mixTo F S 2 3).set 2 (bits .xor .u8 a (gm f3 b)) = mixTo F S 2 (3 + 1) := by
              rw [← mixTo_set F S 2 3 (by omega), mixAt, ha, hb, HF.out]
              rfl
            have E := Lib.hid e
            clear ha hb e
            try simp only [Nat.add_zero] at hxc
            go_wp2
            refine wp_region_still_tail 14 (by kernel_rfl) (by kernel_rfl) ?_
            simp only [List.take_succ_cons, List.take_zero, List.drop_succ_cons, List.drop_zero]
            repeat still_step
            still_call ((mulGf_any _ _ _ hb0 hb1).mono fun e w' h => ⟨h.1, h.2.symm⟩)
            repeat still_step
            refine wpStill_nil ?_
            change wpList _ _ _ _ _ wr.drew
            go_wp2
            go_roundw
            case rel =>
              refine ⟨3 + 1, 3 + 1, rfl, by omega, rfl, (ho.other (by simp) _).drew, ?_, (hxr.other (by simp; omega) _).drew, (hbl.set (.inr (by simp)) _).drew⟩
              have h2 := hr.set (i := 2) (by rw [u8s_length, mixTo_length]; omega) (.int .u8 (bits .xor .u8 a (gm f3 b)))
              rw [u8s_set, E.out] at h2
              exact h2.drew
            case measure => simp [intOf]
          · obtain rfl : kI = 4 := by omega
            clear hkI
            rw [mixTo_next F S 2 (by omega)] at hr
            go_wp2
            go_roundw
            case rel => exact ⟨2 + 1, 2 + 1, rfl, by omega, rfl, ho, hr, hxr, hbl⟩
            case measure => simp [intOf]
      · obtain rfl : iI = 3 := by omega
        clear hiI
        go_wp2
        obtain ⟨wo, rfl⟩ : ∃ wo : World, wo = wr := ⟨_, rfl⟩
        go_loopw [13] (fun v wr => ∃ (k : Nat) (kI : Int), kI = k ∧ k ≤ 4 ∧ v = .int .i64 kI ∧ Row wr w.heap.size [.int .u8 f0, .int .u8 f1, .int .u8 f2, .int .u8 f3] ∧ Row wr (w.heap.size + 1) (u8s (mixTo F S 3 k)) ∧ Row wr g (u8s xs) ∧ KB w.heap.size g w wr) (fun v _ => 4 - (intOf v).toNat)
        case atStart => exact ⟨0, 0, rfl, by omega, rfl, ho, hr, hxr, hbl⟩
        case round =>
          clear c0 c1 c2 c3 ho hr hxr hbl
          obtain ⟨k, kI, hkI, hk4, rfl, ho, hr, hxr, hbl⟩ := hrel
          rcases (show k = 0 ∨ k = 1 ∨ k = 2 ∨ k = 3 ∨ k = 4 by omega) with rfl | rfl | rfl | rfl | rfl
          · obtain rfl : kI = 0 := by omega
            clear hkI
            have hw1 : IntKind.i64.wrap 3 = 3 := by kernel_rfl
            have hw2 : Int.tmod 3 4 = 3 := by kernel_rfl
            have i0 : ∀ w, (Instr.index 50 (.agg #[.int .u8 f0, .int .u8 f1, .int .u8 f2, .int .u8 f3]) (.int .i64 0)).run Try.prog w = .ok (.int .u8 f0) w := fun _ => by kernel_rfl
            have hcell := hr.cell (u8s_at (xs := mixTo F S 3 0) (i := 3) (by rw [mixTo_length]; omega))
            have hfree := hr.free (i := 3) (by rw [u8s_length, mixTo_length]; omega)
            rw [mixTo_at F S 3 0 (by omega)] at hcell
            have hxc := hxr.cell (u8s_at (xs := xs) (i := off + 3) (by omega))
            rw [HS.out 3 (by omega)] at hxc
            obtain ⟨hb0, hb1⟩ := HSb.out 3 (by omega)
            obtain ⟨a, ha⟩ : ∃ a, a = mixAt F S 3 0 := ⟨_, rfl⟩
            obtain ⟨b, hb⟩ : ∃ b, b = S.getD 3 0 := ⟨_, rfl⟩
            rw [← ha] at hcell
            rw [← hb] at hxc hb0 hb1
            have e : (mixTo F S 3 0).set 3 (bits .xor .u8 a (gm f0 b)) = mixTo F S 3 (0 + 1) := by
              rw [← mixTo_set F S 3 0 (by omega), mixAt, ha, hb, HF.out]
              rfl
            have E := Lib.hid e
            clear ha hb e
            try simp only [Nat.add_zero] at hxc
            go_wp2
            refine wp_region_still_tail 14 (by kernel_rfl) (by kernel_rfl) ?_
            simp only [List.take_succ_cons, List.take_zero, List.drop_succ_cons, List.drop_zero]
            repeat still_step
            still_call ((mulGf_any _ _ _ hb0 hb1).mono fun e w' h => ⟨h.1, h.2.symm⟩)
            repeat still_step
            refine wpStill_nil ?_
            change wpList _ _ _ _ _ wr.drew
            go_wp2
            go_roundw
            case rel =>
              refine ⟨0 + 1, 0 + 1, rfl, by omega, rfl, (ho.other (by simp) _).drew, ?_, (hxr.other (by simp; omega) _).drew, (hbl.set (.inr (by simp)) _).drew⟩
              have h2 := hr.set (i := 3) (by rw [u8s_length, mixTo_length]; omega) (.int .u8 (bits .xor .u8 a (gm f0 b)))
              rw [u8s_set, E.out] at h2
              exact h2.drew
            case measure => simp [intOf]
          · obtain rfl : kI = 1 := by omega
            clear hkI
            have hw1 : IntKind.i64.wrap 4 = 4 := by kernel_rfl
            have hw2 : Int.tmod 4 4 = 0 := by kernel_rfl
            have i0 : ∀ w, (Instr.index 50 (.agg #[.int .u8 f0, .int .u8 f1, .int .u8 f2, .int .u8 f3]) (.int .i64 1)).run Try.prog w = .ok (.int .u8 f1) w := fun _ => by kernel_rfl
            have hcell := hr.cell (u8s_at (xs := mixTo F S 3 1) (i := 3) (by rw [mixTo_length]; omega))
            have hfree := hr.free (i := 3) (by rw [u8s_length, mixTo_length]; omega)
            rw [mixTo_at F S 3 1 (by omega)] at hcell
            have hxc := hxr.cell (u8s_at (xs := xs) (i := off + 0) (by omega))
            rw [HS.out 0 (by omega)] at hxc
            obtain ⟨hb0, hb1⟩ := HSb.out 0 (by omega)
            obtain ⟨a, ha⟩ : ∃ a, a = mixAt F S 3 1 := ⟨_, rfl⟩
            obtain ⟨b, hb⟩ : ∃ b, b = S.getD 0 0 := ⟨_, rfl⟩
            rw [← ha] at hcell
            rw [← hb] at hxc hb0 hb1
            have e : (mixTo F S 3 1).set 3 (bits .xor .u8 a (gm f1 b)) = mixTo F S 3 (1 + 1) := by
              rw [← mixTo_set F S 3 1 (by omega), mixAt, ha, hb, HF.out]
              rfl
            have E := Lib.hid e
            clear ha hb e
            try simp only [Nat.add_zero] at hxc
            go_wp2
            refine wp_region_still_tail 14 (by kernel_rfl) (by kernel_rfl) ?_
            simp only [List.take_succ_cons, List.take_zero, List.drop_succ_cons, List.drop_zero]
            repeat still_step
            still_call ((mulGf_any _ _ _ hb0 hb1).mono fun e w' h => ⟨h.1, h.2.symm⟩)
            repeat still_step
            refine wpStill_nil ?_
            change wpList _ _ _ _ _ wr.drew
            go_wp2
            go_roundw
            case rel =>
              refine ⟨1 + 1, 1 + 1, rfl, by omega, rfl, (ho.other (by simp) _).drew, ?_, (hxr.other (by simp; omega) _).drew, (hbl.set (.inr (by simp)) _).drew⟩
              have h2 := hr.set (i := 3) (by rw [u8s_length, mixTo_length]; omega) (.int .u8 (bits .xor .u8 a (gm f1 b)))
              rw [u8s_set, E.out] at h2
              exact h2.drew
            case measure => simp [intOf]
          · obtain rfl : kI = 2 := by omega
            clear hkI
            have hw1 : IntKind.i64.wrap 5 = 5 := by kernel_rfl
            have hw2 : Int.tmod 5 4 = 1 := by kernel_rfl
            have i0 : ∀ w, (Instr.index 50 (.agg #[.int .u8 f0, .int .u8 f1, .int .u8 f2, .int .u8 f3]) (.int .i64 2)).run Try.prog w = .ok (.int .u8 f2) w := fun _ => by kernel_rfl
            have hcell := hr.cell (u8s_at (xs := mixTo F S 3 2) (i := 3) (by rw [mixTo_length]; omega))
            have hfree := hr.free (i := 3) (by rw [u8s_length, mixTo_length]; omega)
            rw [mixTo_at F S 3 2 (by omega)] at hcell
            have hxc := hxr.cell (u8s_at (xs := xs) (i := off + 1) (by omega))
            rw [HS.out 1 (by omega)] at hxc
            obtain ⟨hb0, hb1⟩ := HSb.out 1 (by omega)
            obtain ⟨a, ha⟩ : ∃ a, a = mixAt F S 3 2 := ⟨_, rfl⟩
            obtain ⟨b, hb⟩ : ∃ b, b = S.getD 1 0 := ⟨_, rfl⟩
            rw [← ha] at hcell
            rw [← hb] at hxc hb0 hb1
            have e : (mixTo F S 3 2).set 3 (bits .xor .u8 a (gm f2 b)) = mixTo F S 3 (2 + 1) := by
              rw [← mixTo_set F S 3 2 (by omega), mixAt, ha, hb, HF.out]
              rfl
            have E := Lib.hid e
            clear ha hb e
            try simp only [Nat.add_zero] at hxc
            go_wp2
            refine wp_region_still_tail 14 (by kernel_rfl) (by kernel_rfl) ?_
            simp only [List.take_succ_cons, List.take_zero, List.drop_succ_cons, List.drop_zero]
            repeat still_step
            still_call ((mulGf_any _ _ _ hb0 hb1).mono fun e w' h => ⟨h.1, h.2.symm⟩)
            repeat still_step
            refine wpStill_nil ?_
            change wpList _ _ _ _ _ wr.drew
            go_wp2
            go_roundw
            case rel =>
              refine ⟨2 + 1, 2 + 1, rfl, by omega, rfl, (ho.other (by simp) _).drew, ?_, (hxr.other (by simp; omega) _).drew, (hbl.set (.inr (by simp)) _).drew⟩
              have h2 := hr.set (i := 3) (by rw [u8s_length, mixTo_length]; omega) (.int .u8 (bits .xor .u8 a (gm f2 b)))
              rw [u8s_set, E.out] at h2
              exact h2.drew
            case measure => simp [intOf]
          · obtain rfl : kI = 3 := by omega
            clear hkI
            have hw1 : IntKind.i64.wrap 6 = 6 := by kernel_rfl
            have hw2 : Int.tmod 6 4 = 2 := by kernel_rfl
            have i0 : ∀ w, (Instr.index 50 (.agg #[.int .u8 f0, .int .u8 f1, .int .u8 f2, .int .u8 f3]) (.int .i64 3)).run Try.prog w = .ok (.int .u8 f3) w := fun _ => by kernel_rfl
            have hcell := hr.cell (u8s_at (xs := mixTo F S 3 3) (i := 3) (by rw [mixTo_length]; omega))
            have hfree := hr.free (i := 3) (by rw [u8s_length, mixTo_length]; omega)
            rw [mixTo_at F S 3 3 (by omega)] at hcell
            have hxc := hxr.cell (u8s_at (xs := xs) (i := off + 2) (by omega))
            rw [HS.out 2 (by omega)] at hxc
            obtain ⟨hb0, hb1⟩ := HSb.out 2 (by omega)
            obtain ⟨a, ha⟩ : ∃ a, a = mixAt F S 3 3 := ⟨_, rfl⟩
            obtain ⟨b, hb⟩ : ∃ b, b = S.getD 2 0 := ⟨_, rfl⟩
            rw [← ha] at hcell
            rw [← hb] at hxc hb0 hb1
            have e : (mixTo F S 3 3).set 3 (bits .xor .u8 a (gm f3 b)) = mixTo F S 3 (3 + 1) := by
              rw [← mixTo_set F S 3 3 (by omega), mixAt, ha, hb, HF.out]
              rfl
            have E := Lib.hid e
            clear ha hb e
            try simp only [Nat.add_zero] at hxc
            go_wp2
            refine wp_region_still_tail 14 (by kernel_rfl) (by kernel_rfl) ?_
            simp only [List.take_succ_cons, List.take_zero, List.drop_succ_cons, List.drop_zero]
            repeat still_step
            still_call ((mulGf_any _ _ _ hb0 hb1).mono fun e w' h => ⟨h.1, h.2.symm⟩)
            repeat still_step
            refine wpStill_nil ?_
            change wpList _ _ _ _ _ wr.drew
            go_wp2
            go_roundw
            case rel =>
              refine ⟨3 + 1, 3 + 1, rfl, by omega, rfl, (ho.other (by simp) _).drew, ?_, (hxr.other (by simp; omega) _).drew, (hbl.set (.inr (by simp)) _).drew⟩
              have h2 := hr.set (i := 3) (by rw [u8s_length, mixTo_length]; omega) (.int .u8 (bits .xor .u8 a (gm f3 b)))
              rw [u8s_set, E.out] at h2
              exact h2.drew
            case measure => simp [intOf]
          · obtain rfl : kI = 4 := by omega
            clear hkI
            rw [mixTo_next F S 3 (by omega)] at hr
            go_wp2
            go_roundw
            case rel => exact ⟨3 + 1, 3 + 1, rfl, by omega, rfl, ho, hr, hxr, hbl⟩
            case measure => simp [intOf]
    · obtain rfl : i = 4 := by omega
      obtain rfl : iI = 4 := by omega
      clear hiI
      rw [mixTo_end] at hr
      have hcp := run_copy_cells (P := Try.prog) wr 32 32 3 5 g off 4 cap ⟨w.heap.size + 1, 0, none⟩ 4 4 (u8s (mixL F S)) Try.underlying32 (by kernel_rfl) (by simp [mixL]) (fun j v hj => by rw [add_none, Nat.zero_add]; exact hr.cell hj)
        (fun j hj => hxr.cells_some (by simp [mixL] at hj ⊢; omega)) (fun j hj => hxr.free (by simp [mixL] at hj ⊢; omega)) (u8s_one _)
      have hfin : Row (wr.setCells g off (u8s (mixL F S))) g (u8s (setL xs off (mixL F S))) ∧ KB w.heap.size g w (wr.setCells g off (u8s (mixL F S))) := by
        refine ⟨?_, KB.setCells _ _ _ hbl⟩
        rw [← u8s_setL]
        exact Row.setCells _ _ _ _ hxr (by simp [mixL]; omega)
      have HF2 := Lib.hid hfin
      clear hfin
      go_wp2
      go_end0
      exact ⟨rfl, HF2.out.1, HF2.out.2⟩
end Go.Proofs.Ytefhhhdcgonmgaa.Hb
