import Derived.Test.YtefhhhdcgonmgaaHbSWith
namespace Go.Proofs.Ytefhhhdcgonmgaa.Hb
open Go.RowKit
set_option linter.unusedVariables false

theorem tab_cell {w : World} {gt : Nat} (h : Row w gt (u8s tabL)) {a : Int} (h0 : 0 ≤ a) (h1 : a ≤ 255) : w.cell? ⟨gt, a.toNat, none⟩ = some (.int .u8 (sb a)) := by
  have := h.cell (u8s_at (xs := tabL) (i := a.toNat) (by rw [tabL, fillTo_length]; omega))
  rw [this, tabL, fillTo_get 256 _ 256 (Nat.le_refl _) _ (by omega), sbF]
  congr 3
  omega

theorem OwnS.base {b b' : Nat} {w : World} {v : Value} {xs : List Value} (h : OwnS b w v xs) (hb : b' ≤ b) : OwnS b' w v xs := by
  obtain ⟨g', cap', cur, T, m, e, h1, h2⟩ := h
  exact ⟨g', cap', cur, T, m, e, Nat.le_trans hb h1, h2⟩
theorem mix_step {base g4 c4 b4 : Nat} {w4 : World} {mv : Value} {A M : List Int} (ho : OwnN base w4 mv (u8s A)) (hbase : base ≤ w4.heap.size) (h4 : OwnS b4 w4 (.slice (some ⟨g4, 0, none⟩) 4 c4) (u8s M)) (hM : M.length = 4) (hA : A.length < 100000) :
    ∃ v' w5, (Builtin.append_ #[32, 32] 32 #[mv, .slice (some ⟨g4, 0, none⟩) 4 c4]).run Try.prog w4 = .ok v' w5 ∧ OwnS base w5 v' (u8s (A ++ M)) ∧ Below base w4 w5 := by
  obtain ⟨i0, hi, hz0, hz1, hz2⟩ := info_parts A_info
  obtain ⟨v', w5, hrun, hown, hgr, hnew⟩ := append_many 32 32 5 i0 (.int .u8 0) 1 Try.underlying32 hi hz0 hz1 hz2 rfl ho hbase ⟨g4, 0, none⟩ c4 4 (u8s M) (by simp [hM]) (by omega)
    (by
      intro j u hj
      rw [add_none, Nat.zero_add]
      exact h4.row'.cell hj) (u8s_one _) (by simp [maxLen]; omega) (by simp; omega)
  have e : u8s (A ++ M) = u8s A ++ u8s M := by simp [u8s]
  refine ⟨v', w5, hrun, by rw [e]; exact hown, (Below.refl base w4).grown hgr hbase ?_⟩
  intro k hk
  rcases ho with ⟨rfl, _⟩ | ho
  · simp [Value.ownBlock] at hk
  · exact (ho.lt k hk).1

set_option maxRecDepth 100000 in
set_option maxHeartbeats 2000000 in
theorem l3With_any (w : World) (gq ck gt ct : Nat) (K : List Int) (s : ByteArray) (hK : Row w gq (u8s K)) (hKl : K.length = 176) (hck : 176 ≤ ck) (hT : Row w gt (u8s tabL)) (hs : s.size = 16) :
    Calls Try.prog 21 #[.slice (some ⟨gq, 0, none⟩) 176 ck, .slice (some ⟨gt, 0, none⟩) 256 ct, .string s] w fun e w' => e = .returned (.string (strOfNums (encL K (byt s)))) ∧ Below w.heap.size w w' := by
  have ho0 := OwnS.bytes w 5 s
  have hb0 := below_bytes (Below.refl w.heap.size w) (Nat.le_refl _) 5 s
  have kc := Lib.run_convert_string_bytes (P := Try.prog) w 9 32 5 s Try.underlying9 Try.underlying32 Try.underlying5
  obtain ⟨W1, hW1⟩ : ∃ W1, W1 = Lib.bytesWorld w 5 s := ⟨_, rfl⟩
  rw [← hW1] at kc ho0 hb0
  obtain ⟨c0, hc0⟩ : ∃ c, c = grownCap w s.size 0 5 := ⟨_, rfl⟩
  rw [← hc0] at kc ho0
  rw [hs] at kc ho0
  obtain ⟨X, hX⟩ : ∃ X, X = byt s := ⟨_, rfl⟩
  have h8X : B8 X := by rw [hX]; exact byt_B8 s
  have hXl : X.length = 16 := by rw [hX, byt_length]; exact hs
  rw [← hX] at ho0
  rw [← hX]
  have HK := Lib.hid hK
  have HKl := Lib.hid hKl
  have HT := Lib.hid hT
  have HXl := Lib.hid hXl
  have hgk := hK.lt
  have hgt := hT.lt
  have hsz := hb0.size
  have hck2 : (16 : Int) ≤ (ck : Int) := by omega
  have hck3 : 16 ≤ ck := by omega
  have Hx0 : ∀ i, i < 16 → W1.cell? ⟨w.heap.size, 0 + i, none⟩ = some (.int .u8 (X.getD i 0)) := by
    intro i hi
    rw [Nat.zero_add]
    exact ho0.cell (u8s_at (by omega))
  have Hk0 : ∀ i, i < 16 → W1.cell? ⟨gq, 0 + i, none⟩ = some (.int .u8 ((K.drop (16 * 0)).getD i 0)) := by
    intro i hi
    rw [Nat.zero_add]
    have := (hK.below hb0).cell (u8s_at (xs := K) (i := i) (by omega))
    simpa using this
  have HX0 := Lib.hid Hx0
  have HK0 := Lib.hid Hk0
  have HB0 := Lib.hid hb0
  clear hW1 hc0 hX hK hKl hT hXl ho0 Hx0 Hk0 hb0
  go_enter Try.func21, Try.ntmps21
  go_wp2_with (go_at_call 38; refine (l3Xor_any _ w.heap.size 0 _ 16 gq 0 _ _ X (K.drop (16 * 0)) HX0.out HK0.out (by omega) (by omega)).mono ?_; rintro e w2 ⟨rfl, ho2, hb2⟩; rw [xorL_addK K X 0 HXl.out] at ho2)
  have Ho2 := Lib.hid ho2
  have Hb2 := Lib.hid (HB0.out.trans (hb2.mono hsz))
  clear ho2 hb2 HX0 HK0 kc
  go_loopg [7, 8, 9, 10, 11, 12, 13] 10 (fun q v7 v8 v9 v10 v11 v12 v13 wr => ∃ r gs : Nat, q + r = 10 ∧ v7 = .slice (some ⟨gs, 0, none⟩) 16 16 ∧ v8 = .int .i64 ((r : Int) + 1) ∧ Hid (OwnS w.heap.size wr (.slice (some ⟨gs, 0, none⟩) 16 16) (u8s (encN K X r))) ∧ Hid (Below w.heap.size w wr))
  case atStart =>
    refine ⟨0, W1.heap.size, by omega, rfl, rfl, Lib.hid ?_, Hb2⟩
    obtain ⟨g', cap', cur, T, m, e, h1, h2⟩ := Ho2.out
    exact ⟨g', cap', cur, T, m, e, by omega, h2⟩
  case round =>
    clear Ho2 Hb2
    obtain ⟨r, gs, hq, rfl, rfl, Ho, Hb⟩ := hrel
    obtain ⟨wa, rfl⟩ : ∃ wa : World, wa = wr := ⟨_, rfl⟩
    obtain ⟨xs, hxs⟩ : ∃ xs, xs = encN K X r := ⟨_, rfl⟩
    have h8 := Lib.hid (show B8 xs by rw [hxs]; exact encN_B8 K h8X r)
    have hl : xs.length = 16 := by rw [hxs, encN_length, HXl.out]
    rw [← hxs] at Ho
    have HX := Lib.hid hxs
    have HL := Lib.hid hl
    clear hxs hl
    by_cases hlt : r < 10
    · have hd : decide ((r : Int) + 1 ≤ 10) = true := by simp; omega
      obtain ⟨cs, hmk, hcs⟩ := make_bytes wa 16 (by omega)
      have hmk2 : (Instr.makeSlice 32 (.int .i64 16) (.int .i64 16)).run Try.prog wa = .ok (.slice (some ⟨wa.heap.size, 0, none⟩) 16 16) (wa.alloc (.cells cs 5)) := hmk
      have Hown := Lib.hid (OwnS.make wa 16 cs 5 hcs)
      clear hcs hmk
      have Hsl := Lib.hid (Ho.out.lt gs rfl)
      go_wp2_with fail
      go_loopg [10, 11] 4 (fun q v10 v11 wq => ∃ c : Nat, q + c = 4 ∧ v10 = .int .i64 (c : Int) ∧ Hid (OwnS wa.heap.size wq (.slice (some ⟨wa.heap.size, 0, none⟩) 16 16) (u8s (fillTo 16 (subSh xs) (4 * c)))) ∧ Hid (Below wa.heap.size wa wq))
      case atStart => exact ⟨0, by omega, rfl, Hown, Lib.hid ((Below.refl _ _).alloc (Nat.le_refl _) _)⟩
      case round =>
        clear Hown hmk2
        obtain ⟨c, hqc, rfl, Ht, Hb2⟩ := hrel
        by_cases hc : c < 4
        · have hdc : decide ((c : Int) < 4) = true := by simp; omega
          go_wp2_with fail
          go_loopg [11] 4 (fun q v11 wq => ∃ d : Nat, q + d = 4 ∧ v11 = .int .i64 (d : Int) ∧ Hid (OwnS wa.heap.size wq (.slice (some ⟨wa.heap.size, 0, none⟩) 16 16) (u8s (fillTo 16 (subSh xs) (4 * c + d)))) ∧ Hid (Below wa.heap.size wa wq))
          case atStart => exact ⟨0, by omega, rfl, Ht, Hb2⟩
          case round =>
            clear Ht Hb2
            obtain ⟨d, hqd, rfl, Ht, Hb2⟩ := hrel
            by_cases hdl : d < 4
            · have hdd : decide ((d : Int) < 4) = true := by simp; omega
              have hsa : shAt (4 * c + d) = 4 * ((c + d) % 4) + d := by unfold shAt; omega
              have e1 := (Ho.out.row'.below Hb2.out).cell (u8s_at (xs := xs) (i := 4 * ((c + d) % 4) + d) (by rw [HL.out]; omega))
              have hx8 := h8.out (4 * ((c + d) % 4) + d)
              obtain ⟨x, hx⟩ : ∃ x, x = xs.getD (4 * ((c + d) % 4) + d) 0 := ⟨_, rfl⟩
              have E : Hid (subSh xs (4 * c + d) = sb x) := Lib.hid (by rw [subSh, hsa, hx])
              rw [← hx] at e1 hx8
              obtain ⟨hx0, hx1⟩ := hx8
              have e2 := tab_cell (HT.out.below (Hb.out.trans (Hb2.out.mono Hb.out.size))) hx0 hx1
              have e3 := Ht.out.free (i := 4 * c + d) (by rw [u8s_length, fillTo_length]; omega)
              have e4 := Ht.out.cell (u8s_at (xs := fillTo 16 (subSh xs) (4 * c + d)) (i := 4 * c + d) (by rw [fillTo_length]; omega))
              have hx2 : x < 256 := by omega
              clear hx hsa
              go_wp2_with fail
              go_roundg (3 - d)
              case measure => omega
              case rel =>
                refine ⟨d + 1, by omega, by go_num, Lib.hid ?_, Lib.hid (Hb2.out.setCell (Nat.le_refl _) _)⟩
                have h2 := Ht.out.set (i := 4 * c + d) (by rw [u8s_length, fillTo_length]; omega) (.int .u8 (sb x))
                rw [u8s_set, ← E.out, fillTo_step] at h2
                rw [← E.out]
                exact h2
            · obtain rfl : d = 4 := by omega
              go_wp2_with fail
              go_roundg (3 - c)
              case measure => omega
              case rel => exact ⟨c + 1, by omega, by go_num, Ht, Hb2⟩
        · obtain rfl : c = 4 := by omega
          obtain ⟨wb, rfl⟩ : ∃ wb : World, wb = wr := ⟨_, rfl⟩
          obtain ⟨Y, hY⟩ : ∃ Y, Y = shTo (subTo xs 16) 16 := ⟨_, rfl⟩
          have hYl : Y.length = 16 := by rw [hY, shTo_length, subTo_length, HL.out]
          have h8Y : B8 Y := by rw [hY]; exact shTo_B8 (subTo_B8 h8.out _) _
          have Hy : Hid (Row wb wa.heap.size (u8s Y)) := by
            have := Ht.out.row'
            rw [show 4 * 4 = 16 from rfl, subSh_eq xs HL.out, ← hY] at this
            exact Lib.hid this
          have HY := Lib.hid hY
          have HYl := Lib.hid hYl
          have H8Y := Lib.hid h8Y
          have Hbb : Hid (Below w.heap.size w wb) := Lib.hid (Hb.out.trans (Hb2.out.mono Hb.out.size))
          have hwab : wa.heap.size < wb.heap.size := Hy.out.lt
          have hwb : w.heap.size ≤ wa.heap.size := Hb.out.size
          clear hY hYl h8Y Ht Hb Hb2 Ho
          have HKx : Hid (∀ w3 : World, Below w.heap.size w w3 → ∀ i, i < 16 → w3.cell? ⟨gq, 16 * (r + 1) + i, none⟩ = some (.int .u8 ((K.drop (16 * (r + 1))).getD i 0))) := by
            refine Lib.hid fun w3 h3 i hi => ?_
            have := (HK.out.below h3).cell (u8s_at (xs := K) (i := 16 * (r + 1) + i) (by rw [HKl.out]; omega))
            simpa [List.getD_eq_getElem?_getD, List.getElem?_drop] using this
          by_cases hr9 : r < 9
          · have hd9 : decide ((r : Int) + 1 < 10) = true := by simp; omega
            go_wp2_with fail
            go_loopg [12, 13] 4 (fun q v12 v13 wq => ∃ (c : Nat), q + c = 4 ∧ v13 = .int .i64 (c : Int) ∧ Hid (OwnN wb.heap.size wq v12 (u8s (mixA Y c))) ∧ Hid (Below wb.heap.size wb wq))
            case atStart => exact ⟨0, by omega, rfl, Lib.hid (.inl ⟨rfl, rfl⟩), Lib.hid (Below.refl _ _)⟩
            case round =>
              obtain ⟨c, hqc, rfl, Hm, Hb3⟩ := hrel
              by_cases hc4 : c < 4
              · have hdc : decide ((c : Int) < 4) = true := by simp; omega
                have h44 : 4 * c + 4 - 4 * c = 4 := by omega
                have hc16 : 4 * c + 4 ≤ 16 := by omega
                have HX1 : Hid (∀ i, i < 4 → (wr.alloc (.cells #[.int .u8 2, .int .u8 3, .int .u8 1, .int .u8 1] 5)).cell? ⟨wa.heap.size, 4 * c + i, none⟩ = some (.int .u8 (((Y.drop (4 * c)).take 4).getD i 0))) := by
                  refine Lib.hid fun i hi => ?_
                  have := ((Hy.out.below Hb3.out).alloc (.cells #[.int .u8 2, .int .u8 3, .int .u8 1, .int .u8 1] 5)).cell (u8s_at (xs := Y) (i := 4 * c + i) (by rw [HYl.out]; omega))
                  rw [this]
                  simp [List.getD_eq_getElem?_getD, List.getElem?_drop, hi]
                have HX2 : Hid (∀ i, i < 4 → (wr.alloc (.cells #[.int .u8 2, .int .u8 3, .int .u8 1, .int .u8 1] 5)).cell? ⟨wr.heap.size, 0 + i, none⟩ = some (.int .u8 (([2, 3, 1, 1] : List Int).getD i 0))) := by
                  refine Lib.hid fun i hi => ?_
                  have := (Row.new wr #[.int .u8 2, .int .u8 3, .int .u8 1, .int .u8 1] 5)
                  rw [Nat.zero_add]
                  exact this.cell (u8s_at (xs := [2, 3, 1, 1]) (by simpa using hi))
                have HX3 : Hid (∀ j, j < 4 → 0 ≤ ((Y.drop (4 * c)).take 4).getD j 0 ∧ ((Y.drop (4 * c)).take 4).getD j 0 ≤ 255) := by
                  refine Lib.hid fun j hj => ?_
                  have := H8Y.out (4 * c + j)
                  simpa [List.getD_eq_getElem?_getD, List.getElem?_take, List.getElem?_drop, hj] using this
                have Hall : Hid (Below wb.heap.size wb (wr.alloc (.cells #[.int .u8 2, .int .u8 3, .int .u8 1, .int .u8 1] 5))) := Lib.hid (Hb3.out.trans ((Below.refl _ _).alloc Hb3.out.size _))
                have Hm2 : Hid (OwnN wb.heap.size (wr.alloc (.cells #[.int .u8 2, .int .u8 3, .int .u8 1, .int .u8 1] 5)) u12 (u8s (mixA Y c))) := Lib.hid (Hm.out.below ((Below.refl _ _).alloc (Nat.le_refl _) _))
                have HE1 : Hid ((wr.alloc (.cells #[.int .u8 2, .int .u8 3, .int .u8 1, .int .u8 1] 5)).heap.size = wr.heap.size + 1) := Lib.hid (by simp)
                clear Hm Hb3
                go_wp2_with (first | (go_at_call 39; refine (l3Mix_any _ _ _ _ _ 0 _ ((Y.drop (4 * c)).take 4) [2, 3, 1, 1] HX1.out HX2.out HX3.out).mono ?_; rintro e w4 ⟨rfl, ho4, hb4⟩; rw [HE1.out] at ho4) | ((with_reducible refine at_op 67 ?_); obtain ⟨v', w5, hrun, hown, hb5⟩ := mix_step (Hm2.out.below hb4) (Nat.le_trans Hall.out.size hb4.size) ho4 rfl (by rw [mixA_length]; omega); refine wpList_append_run _ rfl (.tmp 57) (.tmp 66) 32 32 rfl rfl rfl rfl hrun ?_))
                go_roundg (3 - c)
                case measure => omega
                case rel => exact ⟨c + 1, by omega, by go_num, Lib.hid (.inr hown), Lib.hid ((Hall.out.trans (hb4.mono Hall.out.size)).trans hb5)⟩
              · obtain rfl : c = 4 := by omega
                rcases Hm.out with ⟨_, h0⟩ | hm
                · have := congrArg List.length h0
                  rw [u8s_length, mixA_length] at this
                  simp at this
                · rw [mixA_eq Y HYl.out] at hm
                  have Hm3 := Lib.hid hm
                  obtain ⟨gm, cm, rfl, hgm, hrm⟩ := hm.row
                  have hlm : (mixCols Y 4).length = 16 := by rw [mixCols_length, HYl.out]
                  have hlu : (u8s (mixCols Y 4)).length = 16 := by rw [u8s_length, hlm]
                  rw [hlu]
                  have HA : Hid (∀ i, i < 16 → wr.cell? ⟨gm, 0 + i, none⟩ = some (.int .u8 ((mixCols Y 4).getD i 0))) := by
                    refine Lib.hid fun i hi => ?_
                    rw [Nat.zero_add]
                    exact hrm.cell (u8s_at (by omega))
                  have Hbr : Hid (Below w.heap.size w wr) := Lib.hid (Hbb.out.trans (Hb3.out.mono Hbb.out.size))
                  have HE : Hid (xorL (mixCols Y 4) (K.drop (16 * (r + 1))) 16 = encN K X (r + 1)) := by
                    refine Lib.hid ?_
                    rw [xorL_addK K _ _ hlm, encN, encR, if_pos (by omega), ← HX.out, HY.out]
                  clear hm hrm hlu hlm hgm Hm Hm3 Hb3
                  go_wp2_with (go_at_call 38; refine (l3Xor_any _ gm 0 _ 16 gq (16 * (r + 1)) 16 _ (mixCols Y 4) (K.drop (16 * (r + 1))) HA.out (HKx.out _ Hbr.out) (by omega) (by omega)).mono ?_; rintro e w6 ⟨rfl, ho6, hb6⟩; rw [HE.out] at ho6)
                  go_roundg (9 - r)
                  case measure => omega
                  case rel => exact ⟨r + 1, wr.heap.size, by omega, rfl, by go_num, Lib.hid (ho6.base Hbr.out.size), Lib.hid (Hbr.out.trans (hb6.mono Hbr.out.size))⟩
          · obtain rfl : r = 9 := by omega
            have hlm : Y.length = 16 := HYl.out
            have HA : Hid (∀ i, i < 16 → wb.cell? ⟨wa.heap.size, 0 + i, none⟩ = some (.int .u8 (Y.getD i 0))) := by
              refine Lib.hid fun i hi => ?_
              rw [Nat.zero_add]
              exact Hy.out.cell (u8s_at (by omega))
            have HE : Hid (xorL Y (K.drop (16 * 10)) 16 = encN K X 10) := by
              refine Lib.hid ?_
              rw [xorL_addK K _ _ hlm, encN, encR, if_neg (by omega), ← HX.out, HY.out]
            clear hlm
            go_wp2_with (go_at_call 38; refine (l3Xor_any _ wa.heap.size 0 _ 16 gq 160 16 _ Y (K.drop (16 * 10)) HA.out (HKx.out _ Hbb.out) (by omega) (by omega)).mono ?_; rintro e w6 ⟨rfl, ho6, hb6⟩; rw [HE.out] at ho6)
            go_roundg 0
            case measure => omega
            case rel => exact ⟨10, wb.heap.size, by omega, rfl, by rfl, Lib.hid (ho6.base Hbb.out.size), Lib.hid (Hbb.out.trans (hb6.mono Hbb.out.size))⟩
    · obtain rfl : r = 10 := by omega
      have hcv := Ho.out.row'.conv Try.underlying32 Try.underlying5 Try.underlying9 (n := 16) HL.out 16
      have HE : Hid (xs = encL K X) := HX
      go_wp2_with fail
      go_ret
      exact ⟨ret_str (by rw [HE.out]), Hb.out⟩
end Go.Proofs.Ytefhhhdcgonmgaa.Hb
