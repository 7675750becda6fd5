import Derived.Test.YtefhhhdcgonmgaaHbCs
import Derived.Test.YtefhhhdcgonmgaaHbITag
import Derived.Deep.RegionWith
namespace Go.Proofs.Ytefhhhdcgonmgaa.Hb
open Go.RowKit
set_option linter.unusedVariables false

theorem row_at {w : World} {g n : Nat} {xs : List Int} (h : Row w g (u8s xs)) (hn : xs.length = n) : ∀ i, i < n → w.cell? ⟨g, 0 + i, none⟩ = some (.int .u8 (xs.getD i 0)) := by
  intro i hi
  rw [Nat.zero_add]
  exact h.cell (u8s_at (by omega))
theorem bytes_below (w : World) (e : TypeId) (s : ByteArray) : Below w.heap.size w (Lib.bytesWorld w e s) := below_bytes (Below.refl _ _) (Nat.le_refl _) e s

theorem bnx {w a b : World} (h : Below w.heap.size w a) (k : Below a.heap.size a b) : Below w.heap.size w b := h.trans (k.mono h.size)

set_option maxRecDepth 100000 in
set_option maxHeartbeats 8000000 in
theorem stag_any (hcs : CsS) (w : World) (g : Nat) (K : List Int) (hK : KAt w g K) (nonce beside sealed : ByteArray) (hs : nonce.size = 12) (hb : beside.size ≤ 100000) (hd : sealed.size ≤ 100000) :
    Calls Try.prog 23 #[.pointer (some ⟨g, 0, none⟩), .string nonce, .string beside, .string sealed] w fun e w' =>
      e = .returned (.string (strOfNums (tagL K (byt nonce) (byt beside) (byt sealed)))) ∧ Below w.heap.size w w' := by
  have Hcs := Lib.hid hcs
  have HK := Lib.hid hK
  obtain ⟨FA, hFA⟩ : ∃ FA, FA = strOfNums (full (byt beside)) := ⟨_, rfl⟩
  obtain ⟨FS, hFS⟩ : ∃ FS, FS = strOfNums (full (byt sealed)) := ⟨_, rfl⟩
  obtain ⟨S1, hS1⟩ : ∃ S1, S1 = strOfNums (be 8 (8 * (beside.size : Int))) := ⟨_, rfl⟩
  obtain ⟨S2, hS2⟩ : ∃ S2, S2 = strOfNums (be 8 (8 * (sealed.size : Int))) := ⟨_, rfl⟩
  obtain ⟨Y, hY⟩ : ∃ Y, Y = ghV (tagH K) (tagIn (byt beside) (byt sealed)) (tagM (byt beside) (byt sealed)) := ⟨_, rfl⟩
  have hbt : byt (FA ++ FS ++ S1 ++ S2) = tagIn (byt beside) (byt sealed) := by
    rw [hFA, hFS, hS1, hS2, byt_append, byt_append, byt_append, byt_nums _ (full_B8 (byt_mem _)), byt_nums _ (full_B8 (byt_mem _)), byt_nums _ (be_range _ _), byt_nums _ (be_range _ _), tagIn, byt_length, byt_length]
  have hsz : (FA ++ FS ++ S1 ++ S2).size = 16 * tagM (byt beside) (byt sealed) := by rw [← byt_length, hbt, tagIn_length]
  have hm : tagM (byt beside) (byt sealed) ≤ 100000 := by rw [tagM, byt_length, byt_length]; omega
  have hss : FA.size + FS.size + S1.size + S2.size = 16 * tagM (byt beside) (byt sealed) := by rw [← hsz, ByteArray.size_append, ByteArray.size_append, ByteArray.size_append]
  have hn1 : FA.size + FS.size ≤ 9223372036854775807 := by omega
  have hn2 : FA.size + FS.size + S1.size ≤ 9223372036854775807 := by omega
  have hn3 : FA.size + FS.size + S1.size + S2.size ≤ 9223372036854775807 := by omega
  have HFA : Hid (∀ w', Calls Try.prog 40 #[.string beside] w' fun e w'' => e = .returned (.string FA) ∧ Below w'.heap.size w' w'') := Lib.hid (by rw [hFA]; exact fun w' => Hcs.out.fill beside w' (by omega))
  have HFS : Hid (∀ w', Calls Try.prog 40 #[.string sealed] w' fun e w'' => e = .returned (.string FS) ∧ Below w'.heap.size w' w'') := Lib.hid (by rw [hFS]; exact fun w' => Hcs.out.fill sealed w' (by omega))
  have HS1 : Hid (∀ w', Calls Try.prog 24 #[.int .i64 (8 * (beside.size : Int)), .int .i64 8] w' fun e w'' => e = .returned (.string S1) ∧ Below w'.heap.size w' w'') := Lib.hid (by rw [hS1]; exact fun w' => Hcs.out.fix _ 8 _ w' rfl (by omega) (by omega) (by omega))
  have HS2 : Hid (∀ w', Calls Try.prog 24 #[.int .i64 (8 * (sealed.size : Int)), .int .i64 8] w' fun e w'' => e = .returned (.string S2) ∧ Below w'.heap.size w' w'') := Lib.hid (by rw [hS2]; exact fun w' => Hcs.out.fix _ 8 _ w' rfl (by omega) (by omega) (by omega))
  have hz8 : ∀ x ∈ encL K (List.replicate 16 0), 0 ≤ x ∧ x ≤ 255 := by
    refine B8_mem (encL_B8 K (mem_B8 ?_))
    intro x hx
    obtain rfl := (List.mem_replicate.1 hx).2
    omega
  obtain ⟨HH, hHH⟩ : ∃ HH, HH = strOfNums (encL K (List.replicate 16 0)) := ⟨_, rfl⟩
  have HGH : Hid (∀ w', Calls Try.prog 42 #[.string HH, .string (FA ++ FS ++ S1 ++ S2)] w' fun e w'' => e = .returned (.agg #[.int .u64 ((hiV Y).toNat : Int), .int .u64 ((loV Y).toNat : Int)]) ∧ Below w'.heap.size w' w'') :=
    Lib.hid (by
      intro w'
      have := Hcs.out.ghash HH (FA ++ FS ++ S1 ++ S2) (tagM (byt beside) (byt sealed)) w' (by rw [hHH, strOfNums_size, encL_length, List.length_replicate]) hsz hm
      rw [hbt, hHH, byt_nums _ hz8, ← tagH, ← hY, ← hHH] at this
      exact this)
  have HTX : Hid (∀ w', Calls Try.prog 41 #[.agg #[.int .u64 ((hiV Y).toNat : Int), .int .u64 ((loV Y).toNat : Int)]] w' fun e w'' => e = .returned (.string (strOfNums (vtext Y))) ∧ Below w'.heap.size w' w'') := Lib.hid (fun w' => Hcs.out.told Y w')
  have HY := Lib.hid hY
  obtain ⟨gq, ck, gt, c0, c1, c2, r0, r1, h1, h2⟩ := hK
  rw [← hHH] at c2
  have hgl := World.block_lt_of_cell? w _ c0
  have HC0 := Lib.hid c0
  have HC1 := Lib.hid c1
  have HC2 := Lib.hid c2
  have Hr0 := Lib.hid r0
  have Hr1 := Lib.hid r1
  have Hkl := Lib.hid h2
  clear hcs hFA hFS hS1 hS2 hY hbt hsz hm hss hz8 hHH c0 c1 c2 r0 r1 h2 HK
  have hB := Below.refl w.heap.size w
  go_enter Try.func23, Try.ntmps23
  go_wp2_with fail
  refine (HFA.out _).mono ?_
  rintro e w2 ⟨rfl, hb2⟩; replace hB := hB.trans (hb2.mono hB.size); clear hb2
  go_wp2_with fail
  refine (HFS.out _).mono ?_
  rintro e w3 ⟨rfl, hb2⟩; replace hB := hB.trans (hb2.mono hB.size); clear hb2
  go_wp2_with fail
  refine (HS1.out _).mono ?_
  rintro e w4 ⟨rfl, hb2⟩; replace hB := hB.trans (hb2.mono hB.size); clear hb2
  go_wp2_with fail
  refine (HS2.out _).mono ?_
  rintro e w5 ⟨rfl, hb2⟩; replace hB := hB.trans (hb2.mono hB.size); clear hb2
  have c2 := cell_below HC2.out hB hgl
  go_wp2_with fail
  refine (HGH.out _).mono ?_
  rintro e w6 ⟨rfl, hb2⟩; replace hB := hB.trans (hb2.mono hB.size); clear hb2 c2
  go_wp2_with fail
  refine (HTX.out _).mono ?_
  rintro e w7 ⟨rfl, hb2⟩; replace hB := hB.trans (hb2.mono hB.size); clear hb2 hn1 hn2 hn3
  have c0 := cell_below HC0.out hB hgl
  have c1 := cell_below HC1.out hB hgl
  have hgl7 : g < w7.heap.size := Nat.lt_of_lt_of_le hgl hB.size
  have Hr07 := Lib.hid (Row.drew (Hr0.out.below hB))
  have Hr17 := Lib.hid (Row.drew (Hr1.out.below hB))
  have HB := Lib.hid hB
  clear hB HFA HFS HS1 HS2 HGH HTX Hr0 Hr1 HC0 HC1 HC2
  obtain ⟨VT, hVT⟩ : ∃ VT, VT = strOfNums (vtext Y) := ⟨_, rfl⟩
  rw [← hVT]
  have hVs : VT.size = 16 := by rw [hVT, strOfNums_size, vtext_length]
  have kc1 := fun w => Lib.run_convert_string_bytes (P := Try.prog) w 9 32 5 VT Try.underlying9 Try.underlying32 Try.underlying5
  simp only [hVs] at kc1
  have HE1 : Hid (byt (nonce ++ ⟨#[0, 0, 0, 1]⟩) = byt nonce ++ [0, 0, 0, 1]) := Lib.hid (by rw [byt_append]; rfl)
  have HN1 : Hid ((nonce ++ (⟨#[0, 0, 0, 1]⟩ : ByteArray)).size = 16) := Lib.hid (by rw [ByteArray.size_append, hs]; rfl)
  have hcn : ¬ (9223372036854775807 < nonce.size + 4) := by omega
  have hcc : nonce.size + 4 ≤ 9223372036854775807 := by omega
  obtain ⟨G, hG⟩ : ∃ G, G = strOfNums (encL K (byt (nonce ++ ⟨#[0, 0, 0, 1]⟩))) := ⟨_, rfl⟩
  have hGs : G.size = 16 := by rw [hG, strOfNums_size, encL_length, byt_length]; exact HN1.out
  have kc2 := fun w => Lib.run_convert_string_bytes (P := Try.prog) w 9 32 5 G Try.underlying9 Try.underlying32 Try.underlying5
  simp only [hGs] at kc2
  have L3 : Hid (∀ w', Row w' gq (u8s K) → Row w' gt (u8s tabL) → Calls Try.prog 21 #[.slice (some ⟨gq, 0, none⟩) 176 ck, .slice (some ⟨gt, 0, none⟩) 256 256, .string (nonce ++ ⟨#[0, 0, 0, 1]⟩)] w' fun e w'' => e = .returned (.string G) ∧ Below w'.heap.size w' w'') :=
    Lib.hid (fun w' a b => (l3With_any _ _ _ _ _ K _ a Hkl.out h1 b HN1.out).mono (by rintro e w'' ⟨rfl, h⟩; exact ⟨by rw [hG], h⟩))
  have HX : Hid (xorL (byt VT) (byt G) 16 = tagL K (byt nonce) (byt beside) (byt sealed)) := Lib.hid (by
    rw [hVT, hG, byt_nums _ (vtext_B8 _), byt_nums _ (B8_mem (encL_B8 K (byt_B8 _))), tagL, ← HY.out, HE1.out])
  have HVl : Hid ((byt VT).length = 16) := Lib.hid (by rw [byt_length]; exact hVs)
  have HGl : Hid ((byt G).length = 16) := Lib.hid (by rw [byt_length]; exact hGs)
  clear hVT hVs hG hGs
  go_wp2_with fail
  have c0b := cell_below (w := w7.drew) c0 (bytes_below w7.drew 5 VT) hgl7
  have c1b := cell_below (w := w7.drew) c1 (bytes_below w7.drew 5 VT) hgl7
  have L3a := Lib.hid (L3.out w7.drew Hr07.out Hr17.out)
  have L3b := Lib.hid (L3.out (Lib.bytesWorld w7.drew 5 VT) (Hr07.out.below (bytes_below _ _ _)) (Hr17.out.below (bytes_below _ _ _)))
  have hB7 := HB.out.drew
  go_region_with (first
    | (go_at_call 21; (first | (with_reducible refine L3a.out.mono ?_) | (with_reducible refine L3b.out.mono ?_)); rintro e w8 ⟨rfl, hb8⟩)
    | (go_at_call 38
       refine (l3Xor_any _ _ _ _ 16 _ _ 16 _ (byt VT) (byt G)
         (row_at (by first | exact Row.bytes _ _ _ | exact (Row.bytes _ _ _).below (bytes_below _ _ _) | exact ((Row.bytes _ _ _).below hb8).below (bytes_below _ _ _)) HVl.out)
         (row_at (by first | exact Row.bytes _ _ _ | exact (Row.bytes _ _ _).below (bytes_below _ _ _)) HGl.out) (Nat.le_refl _) (by omega)).mono ?_
       rintro e w9 ⟨rfl, ho, hb9⟩
       have hcv := ho.row'.conv Try.underlying32 Try.underlying5 Try.underlying9 (n := 16) (fillTo_length _ _ _) 16))
  all_goals
    go_wp2_with fail
    go_ret
    refine ⟨ret_str (by rw [HX.out]), ?_⟩
    first | exact bnx (bnx (bnx (bnx hB7 (bytes_below _ _ _)) hb8) (bytes_below _ _ _)) hb9 | exact bnx (bnx (bnx (bnx hB7 hb8) (bytes_below _ _ _)) (bytes_below _ _ _)) hb9

set_option maxHeartbeats 1000000 in
theorem sseal_any (hcs : CsS) (w : World) (g : Nat) (K : List Int) (hK : KAt w g K) (nonce beside text : ByteArray) (hs : nonce.size = 12) (hb : beside.size ≤ 100000) (ht : text.size ≤ 100000) :
    Calls Try.prog 11 #[.pointer (some ⟨g, 0, none⟩), .string nonce, .string beside, .string text] w fun e w' =>
      e = .returned (.string (strOfNums (sealL K (byt nonce) (byt beside) (byt text)))) ∧ Below w.heap.size w w' := by
  have Hcs := Lib.hid hcs
  have HK := Lib.hid hK
  have H2 := Lib.hid hs
  obtain ⟨S, hS⟩ : ∃ S, S = strOfNums (cntL K (byt nonce) (byt text)) := ⟨_, rfl⟩
  have hSl : S.size = text.size := by rw [hS, strOfNums_size, cntL, cntTo_length, byt_length]
  have hSb : byt S = cntL K (byt nonce) (byt text) := by
    rw [hS]
    refine byt_nums _ ?_
    intro x hx
    simp only [cntL, cntTo, List.mem_map] at hx
    obtain ⟨j, _, rfl⟩ := hx
    exact bits_u8 _ _ _
  have HS := Lib.hid hS
  have HSb := Lib.hid hSb
  have htl : (strOfNums (tagL K (byt nonce) (byt beside) (byt S))).size = 16 := by rw [strOfNums_size, tagL, xorL, fillTo_length]
  have hcc : S.size + (strOfNums (tagL K (byt nonce) (byt beside) (byt S))).size ≤ 9223372036854775807 := by omega
  have hS5 : S.size ≤ 100000 := by omega
  clear hcs hK hs hS hSb hSl htl
  go_enter Try.func11, Try.ntmps11
  go_wp2_with fail
  refine (count_any (fun n w h0 h1 => Hcs.out.fix n 4 _ w rfl (by omega) h0 (by omega)) _ g K HK.out nonce text H2.out (by omega)).mono ?_
  rintro e w4 ⟨rfl, hb4⟩
  rw [← HS.out]
  have HK4 := Lib.hid (HK.out.below hb4)
  have HB4 := Lib.hid hb4
  clear hb4
  go_wp2_with fail
  refine (stag_any Hcs.out _ g K HK4.out nonce beside S H2.out hb hS5).mono ?_
  rintro e w5 ⟨rfl, hb5⟩
  have HB5 := Lib.hid (bnx HB4.out hb5)
  clear hb5 HB4 HK4
  have HR : Hid (S ++ strOfNums (tagL K (byt nonce) (byt beside) (byt S)) = strOfNums (sealL K (byt nonce) (byt beside) (byt text))) := Lib.hid (by
    rw [sealL, HSb.out, HS.out]
    apply ByteArray.ext
    simp [strOfNums])
  go_wp2_with fail
  go_ret
  exact ⟨ret_str HR.out, HB5.out⟩
end Go.Proofs.Ytefhhhdcgonmgaa.Hb
