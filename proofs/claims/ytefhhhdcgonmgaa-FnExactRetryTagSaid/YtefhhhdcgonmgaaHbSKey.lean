import Derived.Test.YtefhhhdcgonmgaaHbSBlk
import Derived.Test.YtefhhhdcgonmgaaHbSKeys
import Derived.Deep.RegionWith
namespace Go.Proofs.Ytefhhhdcgonmgaa.Hb
open Go.RowKit
set_option linter.unusedVariables false

theorem byt_nums (xs : List Int) (h : ∀ x ∈ xs, 0 ≤ x ∧ x ≤ 255) : byt (strOfNums xs) = xs := by
  apply List.ext_getElem
  · simp [byt, strOfNums_size]
  · intro i h1 h2
    have hx := h xs[i] (List.getElem_mem _)
    simp [byt, strOfNums]
    omega
/-- A key with its round keys, its table and its block of noughts. -/
def KAt (w : World) (g : Nat) (K : List Int) : Prop :=
  ∃ gq ck gt, w.cell? ⟨g, 0, none⟩ = some (.slice (some ⟨gq, 0, none⟩) 176 ck) ∧ w.cell? ⟨g, 1, none⟩ = some (.slice (some ⟨gt, 0, none⟩) 256 256) ∧ w.cell? ⟨g, 2, none⟩ = some (.string (strOfNums (encL K (List.replicate 16 0)))) ∧ Row w gq (u8s K) ∧ Row w gt (u8s tabL) ∧ 176 ≤ ck ∧ K.length = 176
theorem KAt.below {w w' : World} {g : Nat} {K : List Int} (h : KAt w g K) (hb : Below w.heap.size w w') : KAt w' g K := by
  obtain ⟨gq, ck, gt, c0, c1, c2, r0, r1, h1, h2⟩ := h
  have hlt := World.block_lt_of_cell? w _ c0
  exact ⟨gq, ck, gt, cell_below c0 hb hlt, cell_below c1 hb hlt, cell_below c2 hb hlt, r0.below hb, r1.below hb, h1, h2⟩

set_option maxRecDepth 100000 in
set_option maxHeartbeats 1000000 in
theorem l5Key_any (key : ByteArray) (w : World) (hs : key.size = 16) :
    Calls Try.prog 10 #[.string key] w fun e w' => ∃ g, e = .returned (.pointer (some ⟨g, 0, none⟩)) ∧ KAt w' g (ks (byt key) 40).1 ∧ Below w.heap.size w w' := by
  have HS := Lib.hid hs
  have HKl : Hid ((ks (byt key) 40).1.length = 176) := Lib.hid (ks_length _ (by rw [byt_length]; exact hs) 40)
  obtain ⟨K, hKd⟩ : ∃ K, K = (ks (byt key) 40).1 := ⟨_, rfl⟩
  rw [← hKd] at HKl
  rw [← hKd]
  have HKd := Lib.hid hKd
  clear hs hKd
  go_enter Try.func10, Try.ntmps10
  go_wp2_with (first | (go_at_call 19; refine (l3Keys_any key _ HS.out).mono ?_; rintro e w2 ⟨gq, ck, rfl, hoq, hb2⟩; rw [← HKd.out] at hoq) | (go_at_call 20; refine (l3Table_any _).mono ?_; rintro e w3 ⟨rfl, hot, hb3⟩))
  have hgq := (hoq.lt gq rfl)
  have hck : 176 ≤ ck := by
    obtain ⟨g', cap', cur, T, mm, e, h1, h2, h3, h4, _⟩ := hoq
    simp at e
    obtain ⟨_, _, rfl⟩ := e
    rw [u8s_length, HKl.out] at h4
    exact h4
  obtain ⟨W4, hW4⟩ : ∃ W4, W4 = w3.alloc (.cells #[.slice (some ⟨gq, 0, none⟩) 176 ck, .slice (some ⟨w2.heap.size, 0, none⟩) 256 256, .string ⟨#[]⟩] 42) := ⟨_, rfl⟩
  have hb4 : Below w3.heap.size w3 W4 := by rw [hW4]; exact (Below.refl _ _).alloc (Nat.le_refl _) _
  have hr4 := Row.new w3 #[.slice (some ⟨gq, 0, none⟩) 176 ck, .slice (some ⟨w2.heap.size, 0, none⟩) 256 256, .string ⟨#[]⟩] 42
  rw [← hW4] at hr4
  have hw12 := hb2.size
  have hlt23 := hot.row'.lt
  have hw23 := hb3.size
  have Hrq : Hid (Row W4 gq (u8s K)) := Lib.hid ((hoq.row'.below hb3).below hb4)
  have Hrt : Hid (Row W4 w2.heap.size (u8s tabL)) := Lib.hid (hot.row'.below hb4)
  have Hbb : Hid (Below w.heap.size w W4) := Lib.hid ((hb2.trans (hb3.mono hw12)).trans (hb4.mono (by omega)))
  have d0 := hr4.cell (i := 0) (v := .slice (some ⟨gq, 0, none⟩) 176 ck) rfl
  have d1 := hr4.cell (i := 1) (v := .slice (some ⟨w2.heap.size, 0, none⟩) 256 256) rfl
  have d2 := hr4.cell (i := 2) (v := .string ⟨#[]⟩) rfl
  have d3 := hr4.free (i := 2) (by simp)
  have hlt4 := hr4.lt
  rw [← hW4]
  obtain ⟨cs, hmk, hcs⟩ := make_bytes W4.drew 16 (by omega)
  have hmk2 : (Instr.makeSlice 32 (.int .i64 16) (.int .i64 16)).run Try.prog W4.drew = .ok (.slice (some ⟨W4.heap.size, 0, none⟩) 16 16) (W4.drew.alloc (.cells cs 5)) := hmk
  have hcv := (OwnS.make W4.drew 16 cs 5 hcs).row'.conv Try.underlying32 Try.underlying5 Try.underlying9 (n := 16) (by simp) 16
  have hcv2 : (convert 32 9 (.slice (some ⟨W4.heap.size, 0, none⟩) 16 16)).run Try.prog (W4.alloc (.cells cs 5)).drew = .ok (.string (strOfNums (List.replicate 16 0))) (W4.alloc (.cells cs 5)).drew := hcv
  clear hcv
  have hal : Below W4.heap.size W4 (W4.alloc (.cells cs 5)).drew := ((Below.refl _ _).alloc (Nat.le_refl _) _).drew
  have Hrq2 : Hid (Row (W4.alloc (.cells cs 5)).drew gq (u8s K)) := Lib.hid (Hrq.out.below hal)
  have Hrt2 : Hid (Row (W4.alloc (.cells cs 5)).drew w2.heap.size (u8s tabL)) := Lib.hid (Hrt.out.below hal)
  have Hal := Lib.hid hal
  clear hal
  clear hmk hcs hoq hot hb2 hb3 hb4 hr4 hW4
  have HZ : Hid (byt (strOfNums [0, 0, 0, 0, 0, 0, 0, 0, 0, 0, 0, 0, 0, 0, 0, 0]) = List.replicate 16 0) := Lib.hid (byt_nums _ (by simp))
  go_region_with (first | (go_at_call 21; refine (l3With_any _ _ _ _ _ K _ Hrq2.out HKl.out hck Hrt2.out (by simp [strOfNums_size])).mono ?_; rintro e w5 ⟨rfl, hb5⟩; have d5 := cell_below (cell_below d2 Hal.out hlt4) hb5 (Nat.lt_of_lt_of_le hlt4 Hal.out.size); have f5 : w5.frozen? ⟨w3.heap.size, 2, none⟩ = false := (hb5.frozen (p := ⟨w3.heap.size, 2, none⟩) (Nat.lt_of_lt_of_le hlt4 Hal.out.size)).trans ((Hal.out.frozen (p := ⟨w3.heap.size, 2, none⟩) hlt4).trans d3)) | fail)
  all_goals
    go_wp2
    go_ret
    have hls := Hal.out.size
    refine ⟨w3.heap.size, rfl, ⟨gq, ck, w2.heap.size, ?_, ?_, ?_, ?_, ?_, hck, HKl.out⟩, ?_⟩
    · rw [World.cell?_setCell_other _ _ _ _ (by simp)]
      exact cell_below (cell_below d0 Hal.out hlt4) hb5 (Nat.lt_of_lt_of_le hlt4 hls)
    · rw [World.cell?_setCell_other _ _ _ _ (by simp)]
      exact cell_below (cell_below d1 Hal.out hlt4) hb5 (Nat.lt_of_lt_of_le hlt4 hls)
    · rw [World.cell?_setCell_same _ _ _ d5, HZ.out]
    · exact (Hrq2.out.below hb5).other (by simp; omega) _
    · exact (Hrt2.out.below hb5).other (by simp; omega) _
    · exact ((Hbb.out.trans (Hal.out.mono Hbb.out.size)).trans (hb5.mono (Nat.le_trans Hbb.out.size hls))).setCell (by simp; omega) _
end Go.Proofs.Ytefhhhdcgonmgaa.Hb
