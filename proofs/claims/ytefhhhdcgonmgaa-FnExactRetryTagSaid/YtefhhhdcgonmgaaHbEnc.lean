import Derived.Test.YtefhhhdcgonmgaaHbCiph
import Derived.Deep.RegionWith
namespace Go.Proofs.Ytefhhhdcgonmgaa.Hb
open Go.RowKit
set_option linter.unusedVariables false

def subTo (xs : List Int) : Nat → List Int
  | 0 => xs
  | k + 1 => (subTo xs k).set k (sb ((subTo xs k).getD k 0))
theorem subTo_length (xs : List Int) (k : Nat) : (subTo xs k).length = xs.length := by
  induction k with
  | zero => rfl
  | succ k ih => rw [subTo, List.length_set, ih]
def mixCol (xs : List Int) (i : Nat) : List Int := setL xs i (mixL [2, 3, 1, 1] ((xs.drop i).take 4))
/-- The first columns mixed. -/
def mixCols (xs : List Int) : Nat → List Int
  | 0 => xs
  | j + 1 => mixCol (mixCols xs j) (4 * j)
theorem mixCols_length (xs : List Int) (k : Nat) : (mixCols xs k).length = xs.length := by
  induction k with
  | zero => rfl
  | succ k ih => rw [mixCols, mixCol, setL_length, ih]
def encR (K xs : List Int) (r : Nat) : List Int :=
  addK K r (if r < 10 then mixCols (shTo (subTo xs 16) 16) 4 else shTo (subTo xs 16) 16) 16
def encN (K xs : List Int) : Nat → List Int
  | 0 => addK K 0 xs 16
  | r + 1 => encR K (encN K xs r) (r + 1)
/-- The block that a block becomes. -/
def encL (K xs : List Int) : List Int := encN K xs 10

theorem B8_set {xs : List Int} (h : B8 xs) (k : Nat) {x : Int} (h0 : 0 ≤ x) (h1 : x ≤ 255) : B8 (xs.set k x) := by
  intro j
  rw [List.getD_eq_getElem?_getD, List.getElem?_set]
  split
  · split
    · exact ⟨h0, h1⟩
    · exact ⟨Int.le_refl _, by decide⟩
  · rw [← List.getD_eq_getElem?_getD]; exact h j
theorem subTo_B8 {xs : List Int} (h : B8 xs) (k : Nat) : B8 (subTo xs k) := by
  induction k with
  | zero => exact h
  | succ k ih => exact B8_set ih _ (sb_range _).1 (sb_range _).2
theorem shTo_B8 {xs : List Int} (h : B8 xs) (k : Nat) : B8 (shTo xs k) := by
  induction k with
  | zero => exact h
  | succ k ih => exact B8_set ih _ (h _).1 (h _).2
theorem addK_B8 {xs : List Int} (K : List Int) (r : Nat) (h : B8 xs) (k : Nat) : B8 (addK K r xs k) := by
  induction k with
  | zero => exact h
  | succ k ih => exact B8_set ih _ (bits_u8 _ _ _).1 (bits_u8 _ _ _).2
theorem setL_B8 : ∀ (cs xs : List Int) (o : Nat), B8 xs → (∀ c ∈ cs, 0 ≤ c ∧ c ≤ 255) → B8 (setL xs o cs)
  | [], _, _, h, _ => h
  | c :: r, xs, o, h, hc => setL_B8 r _ _ (B8_set h _ (hc c (by simp)).1 (hc c (by simp)).2) (fun x hx => hc x (by simp [hx]))
theorem mixAt_range (f s : List Int) (i k : Nat) : 0 ≤ mixAt f s i k ∧ mixAt f s i k ≤ 255 := by
  cases k with
  | zero => exact ⟨Int.le_refl _, by simp [mixAt]⟩
  | succ k => exact bits_u8 _ _ _
theorem mixCols_B8 {xs : List Int} (h : B8 xs) (k : Nat) : B8 (mixCols xs k) := by
  induction k with
  | zero => exact h
  | succ k ih =>
    refine setL_B8 _ _ _ ih (fun c hc => ?_)
    simp only [mixL, List.mem_cons, List.not_mem_nil, or_false] at hc
    rcases hc with rfl | rfl | rfl | rfl <;> exact mixAt_range _ _ _ _
theorem encN_B8 {xs : List Int} (K : List Int) (h : B8 xs) (r : Nat) : B8 (encN K xs r) := by
  induction r with
  | zero => exact addK_B8 _ _ h _
  | succ r ih =>
    refine addK_B8 _ _ ?_ _
    split
    · exact mixCols_B8 (shTo_B8 (subTo_B8 ih _) _) _
    · exact shTo_B8 (subTo_B8 ih _) _
theorem B8_mem {xs : List Int} (h : B8 xs) : ∀ x ∈ xs, 0 ≤ x ∧ x ≤ 255 := by
  intro x hx
  obtain ⟨i, hi, rfl⟩ := List.mem_iff_getElem.1 hx
  have := h i
  simpa [List.getD_eq_getElem?_getD, hi] using this
theorem encN_length (K xs : List Int) (r : Nat) : (encN K xs r).length = xs.length := by
  induction r with
  | zero => rw [encN, addK_length]
  | succ r ih =>
    rw [encN, encR, addK_length]
    split
    · rw [mixCols_length, shTo_length, subTo_length, ih]
    · rw [shTo_length, subTo_length, ih]

set_option maxRecDepth 100000 in
set_option maxHeartbeats 1000000 in
theorem encrypt_any (w : World) (g gb gq cap : Nat) (K : List Int) (s : ByteArray) (hC : CipherAt w g gb gq cap K) (hs : s.size = 16) :
    Calls Try.prog 31 #[.pointer (some ⟨g, 0, none⟩), .string s] w fun e w' => e = .returned (.string (strOfNums (encL K (byt s)))) ∧ Below w.heap.size w w' := by
  obtain ⟨hg, hgb, hgk⟩ := hC.lt
  have HS := Lib.hid hs
  have hls : (byt s).length = 16 := by rw [byt_length]; exact hs
  have HLS := Lib.hid hls
  have hb0 := below_bytes (Below.refl w.heap.size w) (Nat.le_refl _) 5 s
  have hr0 := Row.bytes w 5 s
  have kc := Lib.run_convert_string_bytes (P := Try.prog) w 9 32 5 s Try.underlying9 Try.underlying32 Try.underlying5
  rw [hs] at kc
  obtain ⟨W1, hW1⟩ : ∃ W1, W1 = Lib.bytesWorld w 5 s := ⟨_, rfl⟩
  rw [← hW1] at kc hr0 hb0
  obtain ⟨cb, hcb⟩ : ∃ cb, cb = grownCap w 16 0 5 := ⟨_, rfl⟩
  rw [← hcb] at kc
  have hcb16 : 16 ≤ cb := by rw [hcb]; exact grownCap_ge w 16 0 5
  obtain ⟨X, hX⟩ : ∃ X, X = byt s := ⟨_, rfl⟩
  have h8X : B8 X := by rw [hX]; exact byt_B8 s
  rw [← hX] at hr0 HLS
  rw [← hX]
  have hsz1 := hb0.size
  clear hW1 hcb hs hls hX
  go_enter Try.func31, Try.ntmps31
  go_wp2_with (go_at_call 46; refine (addKey_any _ g gb gq cap _ _ 0 0 rfl K _ (hC.below hb0) hr0 HLS.out (by omega) (by omega) (by omega) (by omega)).mono ?_; rintro e w2 ⟨rfl, hr2, hk2⟩)
  have hbw2 : Below w.heap.size w w2 := hb0.trans (hk2.below (by omega) (Nat.le_refl _))
  clear kc hr0 hb0 hk2
  clear HS
  go_loopg [6] 10 (fun q v6 wr => ∃ r : Nat, q + r = 10 ∧ v6 = .int .i64 ((r : Int) + 1) ∧ Row wr w.heap.size (u8s (encN K X r)) ∧ Below w.heap.size w wr)
  case atStart => exact ⟨0, by omega, rfl, hr2, hbw2⟩
  case round =>
    clear hr2 hbw2
    obtain ⟨r, hq, rfl, hr, hbw⟩ := hrel
    obtain ⟨xs, hxs⟩ : ∃ xs, xs = encN K X r := ⟨_, rfl⟩
    have h8 : B8 xs := by rw [hxs]; exact encN_B8 K h8X r
    have hl : xs.length = 16 := by rw [hxs, encN_length, HLS.out]
    rw [← hxs] at hr
    have HX := Lib.hid hxs
    have HL := Lib.hid hl
    clear hxs hl
    by_cases hlt : r < 10
    · have hd : decide ((r : Int) + 1 ≤ 10) = true := by simp; omega
      go_wp2_with fail
      go_loopg [21] 16 (fun q v21 wq => ∃ k : Nat, q + k = 16 ∧ v21 = .int .i64 (k : Int) ∧ Row wq w.heap.size (u8s (subTo xs k)) ∧ Below w.heap.size w wq)
      case atStart => exact ⟨0, by omega, rfl, hr, hbw⟩
      case round =>
        clear hr hbw
        obtain ⟨k, hqk, rfl, hr, hbw⟩ := hrel
        by_cases hk : k < 16
        · have hc := hr.cell (u8s_at (xs := subTo xs k) (i := k) (by rw [subTo_length, HL.out]; omega))
          have hf := hr.free (i := k) (by rw [u8s_length, subTo_length, HL.out]; omega)
          obtain ⟨x, hx⟩ : ∃ x, x = (subTo xs k).getD k 0 := ⟨_, rfl⟩
          have hx8 := subTo_B8 h8 k k
          rw [← hx] at hc hx8
          obtain ⟨hx0, hx1⟩ := hx8
          obtain ⟨c0, -, ⟨bk, rb⟩, -⟩ := hC.below hbw
          have hbx := box_cell rb hx0 hx1
          have e : (subTo xs k).set k (sb x) = subTo xs (k + 1) := by rw [subTo, hx]
          have E := Lib.hid e
          have hd2 : decide ((k : Int) < 16) = true := by simp; omega
          clear rb hx e
          go_wp2_with fail
          go_roundg (15 - k)
          case measure => omega
          case rel =>
            refine ⟨k + 1, by omega, by go_num, ?_, hbw.setCell (Nat.le_refl _) _⟩
            have h2 := hr.set (i := k) (by rw [u8s_length, subTo_length, HL.out]; omega) (.int .u8 (sb x))
            rw [u8s_set, E.out] at h2
            exact h2
        · obtain rfl : k = 16 := by omega
          have hl16 : (subTo xs 16).length = 16 := by rw [subTo_length, HL.out]
          go_wp2_with (go_at_call 47; refine (shift_any _ _ _ _ hr hl16).mono ?_; rintro e w3 ⟨rfl, hr3, hk3⟩)
          have hbw3 : Below w.heap.size w w3 := hbw.trans (hk3.below hbw.size (Nat.le_refl _))
          obtain ⟨Y, hY⟩ : ∃ Y, Y = shTo (subTo xs 16) 16 := ⟨_, rfl⟩
          have h8Y : B8 Y := by rw [hY]; exact shTo_B8 (subTo_B8 h8 _) _
          have hlY : Y.length = 16 := by rw [hY, shTo_length, hl16]
          rw [← hY] at hr3
          have HY := Lib.hid hY
          have HLY := Lib.hid hlY
          clear hr hbw hk3 hl16 hY hlY
          by_cases hr9 : r < 9
          · have hd3 : decide ((r : Int) + 1 < 10) = true := by simp; omega
            go_loopg [9] 4 (fun q v9 wq => ∃ (j : Nat) (jI : Int), jI = 4 * j ∧ q + j = 4 ∧ v9 = .int .i64 jI ∧ Row wq w.heap.size (u8s (mixCols Y j)) ∧ Below w.heap.size w wq)
            case atStart => exact ⟨0, 0, by omega, by omega, rfl, hr3, hbw3⟩
            case round =>
              clear hr3 hbw3
              obtain ⟨j, jI, hjI, hqj, rfl, hr, hbw⟩ := hrel
              rcases (show j = 0 ∨ j = 1 ∨ j = 2 ∨ j = 3 ∨ j = 4 by omega) with rfl | rfl | rfl | rfl | rfl
              · obtain rfl : jI = 0 := by omega
                clear hjI
                have hwr : IntKind.i64.wrap 4 = 4 := by kernel_rfl
                have hcb1 : 4 ≤ cb := by omega
                have hcb2 : (4 : Int) ≤ (cb : Int) := by omega
                have hlm : 0 + 4 ≤ (mixCols Y 0).length := by rw [mixCols_length, HLY.out]; omega
                have hm8 := Lib.hid (B8_mem (mixCols_B8 h8Y 0))
                have HLM := Lib.hid hlm
                clear hlm
                go_wp2_with fail
                go_region_with (first | (go_at_call 49; refine (forth_any _).mono ?_; rintro e w4 ⟨rfl, hb4⟩) | (go_at_call 48; refine (mixed_any _ w.heap.size 0 _ (mixCols Y 0) 2 3 1 1 (hr.drew.below (by assumption)) HLM.out hm8.out).mono ?_; rintro e w5 ⟨rfl, hr5, hk5⟩))
                all_goals
                  go_wp2_with fail
                  go_roundg 3
                  case measure => omega
                  case rel =>
                    refine ⟨0 + 1, 4, by omega, by omega, rfl, by assumption, ?_⟩
                    rename_i w4 hb4 w5 hr5 hk5
                    exact (hbw.drew.trans (hb4.mono hbw.size)).trans (hk5.below (Nat.le_trans hbw.size hb4.size) (Nat.le_refl _))
              · obtain rfl : jI = 4 := by omega
                clear hjI
                have hwr : IntKind.i64.wrap 8 = 8 := by kernel_rfl
                have hcb1 : 8 ≤ cb := by omega
                have hcb2 : (8 : Int) ≤ (cb : Int) := by omega
                have hlm : 4 + 4 ≤ (mixCols Y 1).length := by rw [mixCols_length, HLY.out]; omega
                have hm8 := Lib.hid (B8_mem (mixCols_B8 h8Y 1))
                have HLM := Lib.hid hlm
                clear hlm
                go_wp2_with fail
                go_region_with (first | (go_at_call 49; refine (forth_any _).mono ?_; rintro e w4 ⟨rfl, hb4⟩) | (go_at_call 48; refine (mixed_any _ w.heap.size 4 _ (mixCols Y 1) 2 3 1 1 (hr.drew.below (by assumption)) HLM.out hm8.out).mono ?_; rintro e w5 ⟨rfl, hr5, hk5⟩))
                all_goals
                  go_wp2_with fail
                  go_roundg 2
                  case measure => omega
                  case rel =>
                    refine ⟨1 + 1, 8, by omega, by omega, rfl, by assumption, ?_⟩
                    rename_i w4 hb4 w5 hr5 hk5
                    exact (hbw.drew.trans (hb4.mono hbw.size)).trans (hk5.below (Nat.le_trans hbw.size hb4.size) (Nat.le_refl _))
              · obtain rfl : jI = 8 := by omega
                clear hjI
                have hwr : IntKind.i64.wrap 12 = 12 := by kernel_rfl
                have hcb1 : 12 ≤ cb := by omega
                have hcb2 : (12 : Int) ≤ (cb : Int) := by omega
                have hlm : 8 + 4 ≤ (mixCols Y 2).length := by rw [mixCols_length, HLY.out]; omega
                have hm8 := Lib.hid (B8_mem (mixCols_B8 h8Y 2))
                have HLM := Lib.hid hlm
                clear hlm
                go_wp2_with fail
                go_region_with (first | (go_at_call 49; refine (forth_any _).mono ?_; rintro e w4 ⟨rfl, hb4⟩) | (go_at_call 48; refine (mixed_any _ w.heap.size 8 _ (mixCols Y 2) 2 3 1 1 (hr.drew.below (by assumption)) HLM.out hm8.out).mono ?_; rintro e w5 ⟨rfl, hr5, hk5⟩))
                all_goals
                  go_wp2_with fail
                  go_roundg 1
                  case measure => omega
                  case rel =>
                    refine ⟨2 + 1, 12, by omega, by omega, rfl, by assumption, ?_⟩
                    rename_i w4 hb4 w5 hr5 hk5
                    exact (hbw.drew.trans (hb4.mono hbw.size)).trans (hk5.below (Nat.le_trans hbw.size hb4.size) (Nat.le_refl _))
              · obtain rfl : jI = 12 := by omega
                clear hjI
                have hwr : IntKind.i64.wrap 16 = 16 := by kernel_rfl
                have hcb1 : 16 ≤ cb := by omega
                have hcb2 : (16 : Int) ≤ (cb : Int) := by omega
                have hlm : 12 + 4 ≤ (mixCols Y 3).length := by rw [mixCols_length, HLY.out]; omega
                have hm8 := Lib.hid (B8_mem (mixCols_B8 h8Y 3))
                have HLM := Lib.hid hlm
                clear hlm
                go_wp2_with fail
                go_region_with (first | (go_at_call 49; refine (forth_any _).mono ?_; rintro e w4 ⟨rfl, hb4⟩) | (go_at_call 48; refine (mixed_any _ w.heap.size 12 _ (mixCols Y 3) 2 3 1 1 (hr.drew.below (by assumption)) HLM.out hm8.out).mono ?_; rintro e w5 ⟨rfl, hr5, hk5⟩))
                all_goals
                  go_wp2_with fail
                  go_roundg 0
                  case measure => omega
                  case rel =>
                    refine ⟨3 + 1, 16, by omega, by omega, rfl, by assumption, ?_⟩
                    rename_i w4 hb4 w5 hr5 hk5
                    exact (hbw.drew.trans (hb4.mono hbw.size)).trans (hk5.below (Nat.le_trans hbw.size hb4.size) (Nat.le_refl _))
              · obtain rfl : jI = 16 := by omega
                clear hjI
                have HE : Hid (addK K (r + 1) (mixCols Y 4) 16 = encN K X (r + 1)) := by
                  refine Lib.hid ?_
                  rw [encN, encR, if_pos (by omega), ← HX.out, HY.out]
                go_wp2_with (go_at_call 46; refine (addKey_any _ g gb gq cap _ _ (r + 1) ((r : Int) + 1) (by omega) K _ (hC.below hbw) hr (by rw [mixCols_length, HLY.out]) (by omega) (by omega) (by omega) (by omega)).mono ?_; rintro e w6 ⟨rfl, hr6, hk6⟩; rw [HE.out] at hr6)
                go_roundg (9 - r)
                case measure => omega
                case rel => exact ⟨r + 1, by omega, by go_num, hr6, hbw.trans (hk6.below hbw.size (Nat.le_refl _))⟩
          · obtain rfl : r = 9 := by omega
            have HE : Hid (addK K 10 Y 16 = encN K X 10) := by
              refine Lib.hid ?_
              rw [encN, encR, if_neg (by omega), ← HX.out, HY.out]
            refine wp_loop_rounds 1 ?_
            rw [rounds_succ]
            go_wp2_with (go_at_call 46; refine (addKey_any _ g gb gq cap _ _ 10 10 (by omega) K _ (hC.below hbw3) hr3 HLY.out (by omega) (by omega) (by omega) (by omega)).mono ?_; rintro e w6 ⟨rfl, hr6, hk6⟩; rw [HE.out] at hr6)
            go_roundg 0
            case measure => omega
            case rel => exact ⟨10, by omega, by rfl, hr6, hbw3.trans (hk6.below hbw3.size (Nat.le_refl _))⟩
    · obtain rfl : r = 10 := by omega
      have hcv := hr.conv Try.underlying32 Try.underlying5 Try.underlying9 (n := 16) HL.out cb
      have HE : Hid (xs = encL K X) := HX
      go_wp2_with fail
      go_ret
      exact ⟨ret_str (by rw [HE.out]), hbw⟩
end Go.Proofs.Ytefhhhdcgonmgaa.Hb
