import Derived.Test.YtefhhhdcgonmgaaHbCs
import Derived.Deep.RegionHeld3
namespace Go.Proofs.Ytefhhhdcgonmgaa.Hb
open Go.RowKit
set_option linter.unusedVariables false

/-- A byte of a text that is counted from a start on. -/
def sbyte (K H : List Int) (n : Int) (T : List Int) (j : Nat) : Int := bits .xor .u8 (T.getD j 0) ((encL K (H ++ be 4 ((n + ((j / 16 : Nat) : Int)) % 4294967296))).getD (j % 16) 0)
def ctrTo (K H : List Int) (n : Int) (T : List Int) (p : Nat) : List Int := (List.range p).map (sbyte K H n T) ++ T.drop p
theorem ctrTo_zero (K H : List Int) (n : Int) (T : List Int) : ctrTo K H n T 0 = T := by simp [ctrTo]
theorem ctrTo_length (K H : List Int) (n : Int) (T : List Int) (p : Nat) (hp : p ≤ T.length) : (ctrTo K H n T p).length = T.length := by
  simp [ctrTo]
  omega
theorem ctrTo_get (K H : List Int) (n : Int) (T : List Int) (p : Nat) (hp : p < T.length) : (ctrTo K H n T p).getD p 0 = T.getD p 0 := by
  simp [ctrTo, List.getD_eq_getElem?_getD, List.getElem?_append]
theorem ctrTo_step (K H : List Int) (n : Int) (T : List Int) (p : Nat) (hp : p < T.length) : (ctrTo K H n T p).set p (sbyte K H n T p) = ctrTo K H n T (p + 1) := by
  rw [ctrTo, ctrTo, List.set_append_right _ _ (by simp)]
  rw [List.length_map, List.length_range, Nat.sub_self, List.drop_eq_getElem_cons hp, List.set_cons_zero, List.range_succ, List.map_append, List.append_assoc]
  rfl

set_option maxRecDepth 100000 in
set_option maxHeartbeats 1500000 in
theorem counter_any (hcs : CsI) (w : World) (g gb gq cap : Nat) (K : List Int) (hC : CipherAt w g gb gq cap K) (start text : ByteArray) (hs : start.size = 16) (ht : text.size ≤ 1000000) :
    Calls Try.prog 29 #[.pointer (some ⟨g, 0, none⟩), .string start, .string text] w fun e w' =>
      e = .returned (.string (strOfNums (ctrTo K ((byt start).take 12) (nb ((byt start).drop 12)) (byt text) text.size))) ∧ Below w.heap.size w w' := by
  have Hcs := Lib.hid hcs
  have HC := Lib.hid hC
  have HS := Lib.hid hs
  have kc := fun w => Lib.run_convert_string_bytes (P := Try.prog) w 9 32 5 text Try.underlying9 Try.underlying32 Try.underlying5
  have hss : (start.size : Int) = 16 := by omega
  clear hcs hC
  have HH : Hid (byt (start.extract 0 12) = (byt start).take 12) := Lib.hid (by rw [byt_extract]; rfl)
  have HE : Hid (byt (start.extract 12 start.size) = (byt start).drop 12) := Lib.hid (by rw [byt_extract, List.take_of_length_le (by simp)])
  have HEs : Hid ((start.extract 12 start.size).size = 4) := Lib.hid (by rw [size_extract _ _ _ (Nat.le_refl _)]; omega)
  obtain ⟨n, hn⟩ : ∃ n, n = nb ((byt start).drop 12) := ⟨_, rfl⟩
  have hn0 := nb_range ((byt start).drop 12) (fun x hx => byt_mem start x (List.mem_of_mem_drop hx))
  rw [List.length_drop, byt_length, hs, ← hn] at hn0
  have hn1 : 0 ≤ n := hn0.1
  have hn2 : n < 4294967296 := by have := hn0.2; simpa using this
  rw [← hn]
  have HN := Lib.hid hn
  clear hs hn hn0
  go_enter Try.func29, Try.ntmps29
  go_upto_region 1 with fail
  go_cut [7, 8, 9] from 13 to 20 (fun v7 v8 v9 wx => ∃ g c, v7 = .slice (some ⟨g, 0, none⟩) text.size c ∧ v8 = .string (start.extract 0 12) ∧ v9 = .int .u32 n ∧ Hid (w.heap.size ≤ g ∧ Row wx g (u8s (byt text))) ∧ Hid (Below w.heap.size w wx))
  case first =>
    have qn : IntKind.u32.wrap n = n := by rw [IntKind.wrap_u32]; omega
    go_region_with (first | (go_at_call 45; refine (Hcs.out.num _ _ (by rw [HEs.out]; omega)).mono ?_; rintro e w2 ⟨rfl, hb2⟩; rw [HE.out, ← HN.out]))
    · go_wp2_with fail
      go_meet
      have hz := Lib.bytesWorld_size w.drew 5 text
      have hbb := below_bytes (Below.refl w.heap.size w).drew (Nat.le_refl _) 5 text
      refine ⟨_, _, rfl, rfl, rfl, Lib.hid ⟨Nat.le_refl _, (Row.bytes w.drew 5 text).below hb2⟩, Lib.hid (hbb.trans (hb2.mono hbb.size))⟩
    · go_wp2_with fail
      go_meet
      have hb3 : Below w.heap.size w w2 := (Below.refl _ _).drew.trans hb2
      refine ⟨_, _, rfl, rfl, rfl, Lib.hid ⟨hb3.size, Row.bytes w2 5 text⟩, Lib.hid (below_bytes hb3 hb3.size 5 text)⟩
  case rest =>
    obtain ⟨gt, ct, rfl, rfl, rfl, HG, HB⟩ := hcut
    obtain ⟨H, hH⟩ : ∃ H, H = start.extract 0 12 := ⟨_, rfl⟩
    have HHs : Hid (H.size = 12) := Lib.hid (by rw [hH, size_extract _ _ _ (by omega)])
    have HHt : Hid (byt H = (byt start).take 12) := Lib.hid (by rw [hH]; exact HH.out)
    rw [← hH]
    clear hH HH HE HEs hss kc HN
    go_wp2_with fail
    go_loopg [9, 10] (text.size) (fun q v9 v10 wr => ∃ (i p : Nat) (m : Int), p = min (16 * i) text.size ∧ q + i = text.size ∧ Hid (m = (n + (i : Int)) % 4294967296) ∧ 0 ≤ m ∧ m < 4294967296 ∧ v9 = .int .u32 m ∧ v10 = .int .i64 (16 * (i : Int)) ∧ Hid (Row wr gt (u8s (ctrTo K (byt H) n (byt text) p))) ∧ Hid (Below w.heap.size w wr))
    case atStart => exact ⟨0, 0, n, by omega, by omega, Lib.hid (by omega), by omega, by omega, rfl, rfl, Lib.hid (by rw [ctrTo_zero]; exact HG.out.2), HB⟩
    case round =>
      have hgw : w.heap.size ≤ gt := HG.out.1
      clear HG HB
      obtain ⟨i, p, m, hp, hq, HM, hm0, hm1, rfl, rfl, Hr, Hb⟩ := hrel
      obtain ⟨wa, rfl⟩ : ∃ wa : World, wa = wr := ⟨_, rfl⟩
      by_cases hlt : 16 * i < text.size
      · have hd : decide (16 * (i : Int) < (text.size : Int)) = true := by simp; omega
        have hcn : ¬ (9223372036854775807 < H.size + (strOfNums (be 4 m)).size) := by rw [strOfNums_size, be_length, HHs.out]; omega
        have hcc : H.size + (strOfNums (be 4 m)).size ≤ 9223372036854775807 := by omega
        obtain ⟨C, hC⟩ : ∃ C, C = encL K (byt H ++ be 4 m) := ⟨_, rfl⟩
        obtain ⟨B, hB⟩ : ∃ B, B = strOfNums (encL K (byt (H ++ strOfNums (be 4 m)))) := ⟨_, rfl⟩
        have hC0 : encL K (byt (H ++ strOfNums (be 4 m))) = C := by rw [byt_append, byt_nums _ (be_range _ _), hC]
        have hsz : (H ++ strOfNums (be 4 m)).size = 16 := by simp [strOfNums_size, be_length, HHs.out]
        have HBs : Hid (B.size = 16) := Lib.hid (by rw [hB, strOfNums_size, encL_length, byt_length]; exact hsz)
        have HBc : Hid (byt B = C) := Lib.hid (by
          rw [hB, hC0, byt_nums]
          rw [← hC0]
          exact B8_mem (encL_B8 K (byt_B8 _)))
        have HCd := Lib.hid hC
        have HEn : Hid (∀ w', Below w.heap.size w w' → Calls Try.prog 31 #[.pointer (some ⟨g, 0, none⟩), .string (H ++ strOfNums (be 4 m))] w' fun e w'' => e = .returned (.string B) ∧ Below w'.heap.size w' w'') :=
          Lib.hid (fun w' hb => (encrypt_any w' g gb gq cap K _ (HC.out.below hb) hsz).mono (by rintro e w'' ⟨rfl, h⟩; exact ⟨by rw [hB], h⟩))
        clear hC hB hC0 hsz
        go_wp2_with (first | (go_at_call 18; refine (Hcs.out.be m 4 _ _ rfl (by omega) (by omega) (by omega)).mono ?_; rintro e w2 ⟨rfl, hb2⟩) | (go_at_call 31; refine (HEn.out _ (Hb.out.trans (hb2.mono Hb.out.size))).mono ?_; rintro e w3 ⟨rfl, hb3⟩))
        have hw3 : Below wa.heap.size wa w3 := hb2.trans (hb3.mono hb2.size)
        have Hr3 : Hid (Row w3 gt (u8s (ctrTo K (byt H) n (byt text) p))) := Lib.hid (Hr.out.below hw3)
        have Hb3 : Hid (Below w.heap.size w w3) := Lib.hid (Hb.out.trans (hw3.mono Hb.out.size))
        clear hcn hcc hb2 hb3 hw3 Hr Hb HEn
        obtain rfl : p = 16 * i := by omega
        go_loopg [12] 16 (fun q v12 wr => ∃ j : Nat, q + j = 16 * i + 16 ∧ v12 = .int .i64 (j : Int) ∧ 16 * i ≤ j ∧ j ≤ text.size ∧ Hid (Row wr gt (u8s (ctrTo K (byt H) n (byt text) j))) ∧ Hid (Below w.heap.size w wr))
        case atStart => exact ⟨16 * i, by omega, by go_num, by omega, by omega, Hr3, Hb3⟩
        case round =>
          clear Hr3 Hb3
          obtain ⟨j, hk16, rfl, hij, hjt, Hr, Hb⟩ := hrel
          by_cases hk : j < 16 * i + 16
          · by_cases hkl : j < text.size
            · have hd1 : decide ((j : Int) < 16 * (i : Int) + 16) = true := by simp; omega
              have hd2 : decide ((j : Int) < (text.size : Int)) = true := by simp; omega
              have hlT : j < (byt text).length := by rw [byt_length]; exact hkl
              have hc := Hr.out.cell (u8s_at (xs := ctrTo K (byt H) n (byt text) j) (i := j) (by rw [ctrTo_length _ _ _ _ _ (by omega)]; exact hlT))
              have hf := Hr.out.free (i := j) (by rw [u8s_length, ctrTo_length _ _ _ _ _ (by omega)]; exact hlT)
              rw [ctrTo_get _ _ _ _ _ hlT] at hc
              have ix2 := run_idx B (j - 16 * i) (by rw [HBs.out]; omega) ((j : Int) - 16 * (i : Int)) (by omega)
              obtain ⟨x, hx⟩ : ∃ x, x = (byt text).getD j 0 := ⟨_, rfl⟩
              obtain ⟨y, hy⟩ : ∃ y, y = (byt B).getD (j - 16 * i) 0 := ⟨_, rfl⟩
              rw [← hx] at hc
              rw [← hy] at ix2
              have HXY : Hid (bits .xor .u8 x y = sbyte K (byt H) n (byt text) j) := Lib.hid (by
                rw [hx, hy, HBc.out, HCd.out, sbyte, show j / 16 = i by omega, show j % 16 = j - 16 * i by omega, HM.out])
              have q2 : IntKind.i64.wrap ((j : Int) - 16 * (i : Int)) = (j : Int) - 16 * (i : Int) := by rw [IntKind.wrap_i64]; omega
              have q3 : (0 : Int) ≤ (j : Int) := by omega
              have q4 : (j : Int) < (text.size : Int) := by omega
              have Hlt := Lib.hid hlT
              clear hx hy hlT
              go_wp2_with fail
              all_goals
                clear hd1 hd2
                go_region
                go_wp2_with fail
                go_roundg (16 * i + 15 - j)
                case measure => omega
                case rel =>
                  refine ⟨j + 1, by omega, by go_num, by omega, by omega, ?_, Lib.hid ((Hb.out.setCell (by simpa using hgw) _).drew)⟩
                  have h2 := Hr.out.set (i := j) (by rw [u8s_length, ctrTo_length _ _ _ _ _ (by have := Hlt.out; omega)]; exact Hlt.out) (.int .u8 (bits .xor .u8 x y))
                  rw [u8s_set, HXY.out, ctrTo_step _ _ _ _ _ Hlt.out] at h2
                  rw [HXY.out]
                  exact Lib.hid h2.drew
            · obtain rfl : j = text.size := by omega
              have hd2 : decide ((text.size : Int) < (text.size : Int)) = false := by simp
              have hd1 : decide ((text.size : Int) < 16 * (i : Int) + 16) = true := by simp; omega
              go_wp2_with fail
              all_goals first | (exfalso; omega) | skip
              go_roundg (text.size - (i + 1))
              case measure => omega
              case rel => exact ⟨i + 1, text.size, _, by omega, by omega, Lib.hid (by have := HM.out; omega), by omega, by omega, rfl, by go_num, Hr, Hb⟩
          · have HJ : Hid (j = 16 * i + 16) := Lib.hid (by omega)
            have hd1 : decide ((j : Int) < 16 * (i : Int) + 16) = false := by simp; omega
            go_wp2_with fail
            all_goals first | (exfalso; have := HJ.out; omega) | skip
            all_goals
              go_roundg (text.size - (i + 1))
              case measure => have := HJ.out; omega
              case rel => exact ⟨i + 1, j, _, by have := HJ.out; omega, by omega, Lib.hid (by have := HM.out; omega), by omega, by omega, rfl, by go_num, Hr, Hb⟩
      · have hd : decide (16 * (i : Int) < (text.size : Int)) = false := by simp; omega
        obtain rfl : p = text.size := by omega
        have hcv := Hr.out.conv Try.underlying32 Try.underlying5 Try.underlying9 (n := text.size) (by rw [ctrTo_length _ _ _ _ _ (by rw [byt_length]; omega), byt_length]) ct
        clear hp
        go_wp2_with fail
        go_ret
        exact ⟨ret_str (by rw [HHt.out]), Hb.out⟩
end Go.Proofs.Ytefhhhdcgonmgaa.Hb
