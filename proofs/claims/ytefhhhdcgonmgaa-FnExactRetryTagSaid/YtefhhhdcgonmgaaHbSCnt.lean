import Derived.Test.YtefhhhdcgonmgaaHbSKey
import Derived.Test.YtefhhhdcgonmgaaHbLow
import Derived.Deep.RegionHeld3
import Derived.Deep.RegionLaw
namespace Go.Proofs.Ytefhhhdcgonmgaa.Hb
open Go.RowKit
set_option linter.unusedVariables false

/-- A number's bytes, the greatest first. -/
def be (s : Nat) (x : Int) : List Int := (List.range s).map fun i => x / 2 ^ (8 * (s - 1 - i)) % 256
theorem be_length (s : Nat) (x : Int) : (be s x).length = s := by simp [be]
theorem be_range (s : Nat) (x : Int) : ∀ b ∈ be s x, 0 ≤ b ∧ b ≤ 255 := by
  intro b hb
  simp only [be, List.mem_map] at hb
  obtain ⟨i, _, rfl⟩ := hb
  omega
theorem byt_append (a b : ByteArray) : byt (a ++ b) = byt a ++ byt b := by simp [byt]
theorem byt_mem (s : ByteArray) : ∀ x ∈ byt s, 0 ≤ x ∧ x ≤ 255 := B8_mem (byt_B8 s)
/-- The block that is xored over block i of a text. -/
def cblk (K N : List Int) (i : Nat) : List Int := encL K (N ++ be 4 (2 + (i : Int)))
def cbyte (K N T : List Int) (j : Nat) : Int := bits .xor .u8 (T.getD j 0) ((cblk K N (j / 16)).getD (j % 16) 0)
def cntTo (K N T : List Int) (p : Nat) : List Int := (List.range p).map (cbyte K N T)
theorem cntTo_length (K N T : List Int) (p : Nat) : (cntTo K N T p).length = p := by simp [cntTo]
theorem cntTo_step (K N T : List Int) (p : Nat) : cntTo K N T p ++ [cbyte K N T p] = cntTo K N T (p + 1) := by simp [cntTo, List.range_succ]
def cntL (K N T : List Int) : List Int := cntTo K N T T.length
theorem encL_length (K xs : List Int) : (encL K xs).length = xs.length := encN_length K xs 10
theorem encL_B8 (K : List Int) {xs : List Int} (h : B8 xs) : B8 (encL K xs) := encN_B8 K h 10

def Fix4 : Prop := ∀ (n : Int) (w : World), 0 ≤ n → n < 4294967296 → Calls Try.prog 24 #[.int .i64 n, .int .i64 4] w fun e w' => e = .returned (.string (strOfNums (be 4 n))) ∧ Below w.heap.size w w'

set_option maxRecDepth 100000 in
set_option maxHeartbeats 1500000 in
theorem count_any (hfix : Fix4) (w : World) (g : Nat) (K : List Int) (hK : KAt w g K) (nonce text : ByteArray) (hn : nonce.size = 12) (ht : text.size ≤ 1000000000) :
    Calls Try.prog 22 #[.pointer (some ⟨g, 0, none⟩), .string nonce, .string text] w fun e w' => e = .returned (.string (strOfNums (cntL K (byt nonce) (byt text)))) ∧ Below w.heap.size w w' := by
  have Hfix := Lib.hid hfix
  have HK := Lib.hid hK
  have HN := Lib.hid hn
  clear hK hfix hn
  go_enter Try.func22, Try.ntmps22
  go_wp2
  go_loopg [7, 8, 9, 10] (text.size) (fun q v7 v8 v9 v10 wr => ∃ i p : Nat, p = min (16 * i) text.size ∧ q + i = text.size ∧ v8 = .int .i64 (16 * (i : Int)) ∧ Hid (OwnN w.heap.size wr v7 (u8s (cntTo K (byt nonce) (byt text) p))) ∧ Hid (Below w.heap.size w wr))
  case atStart => exact ⟨0, 0, by omega, by omega, rfl, Lib.hid (.inl ⟨rfl, rfl⟩), Lib.hid (Below.refl _ _)⟩
  case round =>
    obtain ⟨i, p, hp, hq, rfl, Ho, Hb⟩ := hrel
    obtain ⟨wa, rfl⟩ : ∃ wa : World, wa = wr := ⟨_, rfl⟩
    by_cases hlt : 16 * i < text.size
    · have hd : decide (16 * (i : Int) < (text.size : Int)) = true := by simp; omega
      obtain ⟨gq, ck, gt, c0, c1, c2, r0, r1, h1, h2⟩ := HK.out.below Hb.out
      have hgl := World.block_lt_of_cell? wa _ c0
      have Hr0 := Lib.hid r0
      have Hr1 := Lib.hid r1
      have Hkl := Lib.hid h2
      clear c2 r0 r1 h2
      have q1 : IntKind.i64.wrap (i : Int) = (i : Int) := by rw [IntKind.wrap_i64]; omega
      have q2 : IntKind.i64.wrap (2 + (i : Int)) = 2 + (i : Int) := by rw [IntKind.wrap_i64]; omega
      have HSz : Hid ((nonce ++ strOfNums (be 4 (2 + (i : Int)))).size = 16) := Lib.hid (by simp [strOfNums_size, be_length, HN.out])
      have hcc : nonce.size + (strOfNums (be 4 (2 + (i : Int)))).size ≤ 9223372036854775807 := by rw [strOfNums_size, be_length, HN.out]; omega
      have hcn : ¬ (9223372036854775807 < nonce.size + (strOfNums (be 4 (2 + (i : Int)))).size) := by omega
      obtain ⟨C, hC⟩ : ∃ C, C = cblk K (byt nonce) i := ⟨_, rfl⟩
      obtain ⟨B, hB⟩ : ∃ B, B = strOfNums (encL K (byt (nonce ++ strOfNums (be 4 (2 + (i : Int)))))) := ⟨_, rfl⟩
      have hC0 : encL K (byt (nonce ++ strOfNums (be 4 (2 + (i : Int))))) = C := by rw [byt_append, byt_nums _ (be_range _ _), hC]; rfl
      have HBs : Hid (B.size = 16) := Lib.hid (by rw [hB, strOfNums_size, encL_length, byt_length]; exact HSz.out)
      have HBc : Hid (byt B = C) := Lib.hid (by
        rw [hB, hC0, byt_nums]
        rw [← hC0]
        exact B8_mem (encL_B8 K (byt_B8 _)))
      have HCd := Lib.hid hC
      have L3 : Hid (∀ w', Row w' gq (u8s K) → Row w' gt (u8s tabL) → Calls Try.prog 21 #[.slice (some ⟨gq, 0, none⟩) 176 ck, .slice (some ⟨gt, 0, none⟩) 256 256, .string (nonce ++ strOfNums (be 4 (2 + (i : Int))))] w' fun e w'' => e = .returned (.string B) ∧ Below w'.heap.size w' w'') :=
        Lib.hid (fun w' a b => (l3With_any _ _ _ _ _ K _ a Hkl.out h1 b HSz.out).mono (by rintro e w'' ⟨rfl, h⟩; exact ⟨by rw [hB], h⟩))
      clear hC hB hC0 HSz
      go_wp2_with fail
      go_region_held3 (fun w' => w'.cell? ⟨g, 0, none⟩ = some (.slice (some ⟨gq, 0, none⟩) 176 ck) ∧ w'.cell? ⟨g, 1, none⟩ = some (.slice (some ⟨gt, 0, none⟩) 256 256)) (go_keep)
        (first | (go_at_call 24; refine (Hfix.out (2 + (i : Int)) _ (by omega) (by omega)).mono ?_; rintro e w2 ⟨rfl, hb2⟩; have c02 := cell_below (w := wa.drew) c0 hb2 hgl; have c12 := cell_below (w := wa.drew) c1 hb2 hgl) | (go_at_call 21; refine (L3.out _ (Row.below (w := wa.drew) Hr0.out hb2) (Row.below (w := wa.drew) Hr1.out hb2)).mono ?_; rintro e w3 ⟨rfl, hb3⟩; have c03 := cell_below c02 hb3 (Nat.lt_of_lt_of_le hgl hb2.size); have c13 := cell_below c12 hb3 (Nat.lt_of_lt_of_le hgl hb2.size)))
      have hw3 : Below wa.heap.size wa w3 := (((Below.refl _ _).drew).trans hb2).trans (hb3.mono hb2.size)
      have Ho3 : Hid (OwnN w.heap.size w3 u7 (u8s (cntTo K (byt nonce) (byt text) p))) := Lib.hid (Ho.out.below hw3)
      have Hb3 : Hid (Below w.heap.size w w3) := Lib.hid (Hb.out.trans (hw3.mono Hb.out.size))
      clear q1 q2 hcc hcn c0 c1 c02 c12 c03 c13 hb2 hb3 hw3 Ho Hb Hr0 Hr1 Hkl L3
      obtain rfl : p = 16 * i := by omega
      go_wp2_with fail
      go_loopg [7, 10] 16 (fun q v7 v10 wr => ∃ k : Nat, q + k = 16 ∧ v10 = .int .i64 (k : Int) ∧ 16 * i + k ≤ text.size ∧ Hid (OwnN w.heap.size wr v7 (u8s (cntTo K (byt nonce) (byt text) (16 * i + k)))) ∧ Hid (Below w.heap.size w wr))
      case atStart => exact ⟨0, by omega, rfl, by omega, Ho3, Hb3⟩
      case round =>
        clear Ho3 Hb3
        obtain ⟨k, hk16, rfl, hkt, Ho, Hb⟩ := hrel
        by_cases hk : k < 16
        · by_cases hkl : 16 * i + k < text.size
          · have hd1 : decide ((k : Int) < 16) = true := by simp; omega
            have hd2 : decide (16 * (i : Int) + (k : Int) < (text.size : Int)) = true := by simp; omega
            have ix1 := run_idx text (16 * i + k) hkl (16 * (i : Int) + (k : Int)) (by omega)
            have ix2 := run_idx B k (by rw [HBs.out]; exact hk) (k : Int) rfl
            obtain ⟨x, hx⟩ : ∃ x, x = (byt text).getD (16 * i + k) 0 := ⟨_, rfl⟩
            obtain ⟨y, hy⟩ : ∃ y, y = (byt B).getD k 0 := ⟨_, rfl⟩
            rw [← hx] at ix1
            rw [← hy] at ix2
            have hxy : bits .xor .u8 x y = cbyte K (byt nonce) (byt text) (16 * i + k) := by
              rw [hx, hy, HBc.out, HCd.out, cbyte, show (16 * i + k) / 16 = i by omega, show (16 * i + k) % 16 = k by omega]
            obtain ⟨v', w5, s1, s2, s3⟩ := push_step Ho.out Hb.out.size (bits .xor .u8 x y) (by rw [cntTo_length]; omega)
            rw [hxy, cntTo_step] at s2
            have S1 := Lib.hid s1
            have S2 := Lib.hid s2
            have S3 := Lib.hid s3
            have q1 : IntKind.i64.wrap (16 * (i : Int) + (k : Int)) = 16 * (i : Int) + (k : Int) := by rw [IntKind.wrap_i64]; omega
            clear hx hy hxy s1 s2 s3
            go_wp2_with fail
            go_region_law (refine step_append_run rfl (.tmp 44) (.tmp 54) 32 32 rfl rfl rfl rfl S1.out ?_)
            clear q1 ix1 ix2 hd1 hd2
            all_goals
              go_wp2_with fail
              go_roundg (15 - k)
              case measure => omega
              case rel => exact ⟨k + 1, by omega, by go_num, by omega, Lib.hid (.inr S2.out), Lib.hid (Hb.out.trans S3.out)⟩
          · have hd1 : decide ((k : Int) < 16) = true := by simp; omega
            have hd2 : decide (16 * (i : Int) + (k : Int) < (text.size : Int)) = false := by simp; omega
            go_wp2_with fail
            go_roundg (text.size - (i + 1))
            case measure => omega
            case rel => exact ⟨i + 1, 16 * i + k, by omega, by omega, by go_num, Ho, Hb⟩
        · have hd1 : decide ((k : Int) < 16) = false := by simp; omega
          go_wp2_with fail
          go_roundg (text.size - (i + 1))
          case measure => omega
          case rel => exact ⟨i + 1, 16 * i + k, by omega, by omega, by go_num, Ho, Hb⟩
    · have hd : decide (16 * (i : Int) < (text.size : Int)) = false := by simp; omega
      obtain rfl : p = text.size := by omega
      clear hp
      rcases Ho.out with ⟨rfl, h0⟩ | ho
      · have ht0 : text.size = 0 := by
          have := congrArg List.length h0
          rw [u8s_length, cntTo_length] at this
          simpa using this
        have HL : Hid (cntL K (byt nonce) (byt text) = []) := Lib.hid (by rw [cntL, byt_length, ht0]; rfl)
        clear h0 ht0
        have hcv := run_convert_bytes_nil (P := Try.prog) wa 32 5 Try.underlying32 Try.underlying5 0 0 9 Try.underlying9
        go_wp2_with fail
        go_ret
        exact ⟨ret_str (by rw [HL.out]; rfl), Hb.out⟩
      · obtain ⟨gv, cv, rfl, hgv, hrv⟩ := ho.row
        have hcv := hrv.conv Try.underlying32 Try.underlying5 Try.underlying9 (n := text.size) (by rw [cntTo_length]) cv
        rw [u8s_length, cntTo_length]
        have HL : Hid (cntTo K (byt nonce) (byt text) text.size = cntL K (byt nonce) (byt text)) := Lib.hid (by rw [cntL, byt_length])
        clear ho hrv
        go_wp2_with fail
        go_ret
        exact ⟨ret_str (by rw [HL.out]), Hb.out⟩
end Go.Proofs.Ytefhhhdcgonmgaa.Hb
