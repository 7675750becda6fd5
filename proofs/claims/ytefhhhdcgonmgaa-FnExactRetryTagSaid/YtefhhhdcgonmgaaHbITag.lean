import Derived.Test.YtefhhhdcgonmgaaHbICnt
import Derived.Test.YtefhhhdcgonmgaaHbLow
namespace Go.Proofs.Ytefhhhdcgonmgaa.Hb
open Go.RowKit
set_option linter.unusedVariables false

theorem ret_sb {a b : ByteArray} {c : Bool} (h : a = b) : Ending.returned (.tuple #[.string a, .bool c]) = .returned (.tuple #[.string b, .bool c]) := by rw [h]
theorem ctr_cnt (K N T : List Int) (hT : T.length ≤ 1000000) : ctrTo K N 2 T T.length = cntL K N T := by
  rw [ctrTo, List.drop_length, List.append_nil, cntL, cntTo]
  apply List.map_congr_left
  intro j hj
  have hj' := List.mem_range.1 hj
  rw [sbyte, cbyte, cblk]
  congr 5
  omega
theorem mem_B8 {xs : List Int} (h : ∀ x ∈ xs, 0 ≤ x ∧ x ≤ 255) : B8 xs := by
  intro j
  rw [List.getD_eq_getElem?_getD]
  rcases e : xs[j]? with _ | v
  · simp
  · exact h v (List.mem_of_getElem? e)
theorem nb_be2 : nb (be 4 2) = 2 := by decide
theorem be00 : be 8 0 ++ be 8 0 = List.replicate 16 0 := by decide
theorem be41 : be 4 1 = [0, 0, 0, 1] := by decide

set_option maxHeartbeats 1000000 in
theorem turned_any (hcs : CsI) (w : World) (g gb gq cap : Nat) (K : List Int) (hC : CipherAt w g gb gq cap K) (nonce text : ByteArray) (hs : nonce.size = 12) (ht : text.size ≤ 1000000) :
    Calls Try.prog 16 #[.pointer (some ⟨g, 0, none⟩), .string nonce, .string text] w fun e w' =>
      e = .returned (.string (strOfNums (cntL K (byt nonce) (byt text)))) ∧ Below w.heap.size w w' := by
  have Hcs := Lib.hid hcs
  have HC := Lib.hid hC
  have hsz : (nonce ++ strOfNums (be 4 2)).size = 16 := by rw [ByteArray.size_append, strOfNums_size, be_length, hs]
  have HSz := Lib.hid hsz
  have hcc : nonce.size + (strOfNums (be 4 2)).size ≤ 9223372036854775807 := by rw [strOfNums_size, be_length]; omega
  have e1 : byt (nonce ++ strOfNums (be 4 2)) = byt nonce ++ be 4 2 := by rw [byt_append, byt_nums _ (be_range _ _)]
  have hl : (byt nonce).length = 12 := by rw [byt_length]; exact hs
  have HE : Hid (ctrTo K ((byt (nonce ++ strOfNums (be 4 2))).take 12) (nb ((byt (nonce ++ strOfNums (be 4 2))).drop 12)) (byt text) text.size = cntL K (byt nonce) (byt text)) := Lib.hid (by
    rw [e1, List.take_left' hl, List.drop_left' hl, nb_be2, ← byt_length text]
    exact ctr_cnt _ _ _ (by rw [byt_length]; exact ht))
  clear hsz e1 hl hs hcs hC
  go_enter Try.func16, Try.ntmps16
  go_wp2_with (first | (go_at_call 18; refine (Hcs.out.be 2 4 _ _ rfl (by omega) (by omega) (by omega)).mono ?_; rintro e w2 ⟨rfl, hb2⟩) | (go_at_call 29; refine (counter_any Hcs.out _ g gb gq cap K (HC.out.below hb2) _ text HSz.out ht).mono ?_; rintro e w3 ⟨rfl, hb3⟩; rw [HE.out]))
  go_ret
  exact ⟨rfl, hb2.trans (hb3.mono hb2.size)⟩

theorem xorB_eq (a b : List Int) (k : Nat) (hk : k ≤ a.length) : ∀ i, (xorB a b k).getD i 0 = if i < k then bits .xor .u8 (a.getD i 0) (b.getD i 0) else a.getD i 0 := by
  induction k with
  | zero => intro i; simp [xorB]
  | succ k ih =>
    intro i
    rw [xorB, getD_set _ _ _ _ (by rw [xorB_length]; omega), ih (by omega), ih (by omega)]
    by_cases e : k = i
    · subst e
      simp
    · rw [if_neg e]
      by_cases h : i < k
      · rw [if_pos h, if_pos (by omega)]
      · rw [if_neg h, if_neg (by omega)]
theorem xorB_xorL (a b : List Int) (n : Nat) (hn : a.length = n) : xorB a b n = xorL a b n := by
  refine list_eq_getD (n := n) (by rw [xorB_length]; exact hn) (fillTo_length _ _ _) fun i hi => ?_
  rw [xorL, fillTo_get n _ n (Nat.le_refl _) i hi, xorB_eq a b n (by omega), if_pos hi]

set_option maxRecDepth 100000 in
set_option maxHeartbeats 400000 in
theorem itag_any (hcs : CsI) (w : World) (g gb gq cap : Nat) (K : List Int) (hC : CipherAt w g gb gq cap K) (nonce beside sealed : ByteArray) (hs : nonce.size = 12) (hb : beside.size ≤ 100000) (hd : sealed.size ≤ 100000) :
    Calls Try.prog 17 #[.pointer (some ⟨g, 0, none⟩), .string nonce, .string beside, .string sealed] w fun e w' =>
      e = .returned (.string (strOfNums (tagL K (byt nonce) (byt beside) (byt sealed)))) ∧ Below w.heap.size w w' := by
  have Hcs := Lib.hid hcs
  have HC := Lib.hid hC
  have HS0 : Hid ((strOfNums (be 8 0) ++ strOfNums (be 8 0)).size = 16) := Lib.hid (by simp [ByteArray.size_append, strOfNums_size, be_length])
  have hc0 : (strOfNums (be 8 0)).size + (strOfNums (be 8 0)).size ≤ 9223372036854775807 := by simp [strOfNums_size, be_length]
  have HE0 : Hid (encL K (byt (strOfNums (be 8 0) ++ strOfNums (be 8 0))) = encL K (List.replicate 16 0)) := Lib.hid (by rw [byt_append, byt_nums _ (be_range _ _), be00])
  obtain ⟨Z, hZ⟩ : ∃ Z, Z = encL K (List.replicate 16 0) := ⟨_, rfl⟩
  rw [← hZ] at HE0
  have hZ8 : ∀ x ∈ Z, 0 ≤ x ∧ x ≤ 255 := by
    rw [hZ]
    refine B8_mem (encL_B8 K (mem_B8 ?_))
    intro x hx
    obtain rfl := (List.mem_replicate.1 hx).2
    omega
  have HZb : Hid (byt (strOfNums Z) = Z) := Lib.hid (byt_nums _ hZ8)
  have HZs : Hid ((strOfNums Z).size = 16) := Lib.hid (by rw [strOfNums_size, hZ, encL_length, List.length_replicate])
  have HTH : Hid (tagH K = blkV Z) := Lib.hid (by rw [tagH, hZ])
  clear hZ hZ8
  clear hcs hC
  go_enter Try.func17, Try.ntmps17
  have hB := Below.refl w.heap.size w
  go_wp2_with fail
  refine (Hcs.out.be 0 8 _ _ rfl (by omega) (by omega) (by omega)).mono ?_
  rintro e w2 ⟨rfl, hb2⟩; replace hB := hB.trans (hb2.mono hB.size); clear hb2
  go_wp2_with fail
  refine (Hcs.out.be 0 8 _ _ rfl (by omega) (by omega) (by omega)).mono ?_
  rintro e w3 ⟨rfl, hb2⟩; replace hB := hB.trans (hb2.mono hB.size); clear hb2
  go_wp2_with fail
  refine (encrypt_any _ g gb gq cap K _ (HC.out.below hB) HS0.out).mono ?_
  rintro e w4 ⟨rfl, hb3⟩; rw [HE0.out]; replace hB := hB.trans (hb3.mono hB.size); clear hb3 hc0
  go_wp2_with fail
  refine (Hcs.out.poly _ _ HZs.out).mono ?_
  rintro e w5 ⟨rfl, hb4⟩; rw [HZb.out, ← HTH.out, polyW]; replace hB := hB.trans (hb4.mono hB.size); clear hb4
  have hT := Row.new w5 #[.int .u64 ((hiV (tagH K)).toNat : Int), .int .u64 ((loV (tagH K)).toNat : Int)] 56
  have hB6 := hB.alloc hB.size (.cells #[.int .u64 ((hiV (tagH K)).toNat : Int), .int .u64 ((loV (tagH K)).toNat : Int)] 56)
  clear hB
  obtain ⟨gh, hgh⟩ : ∃ gh, gh = w5.heap.size := ⟨_, rfl⟩
  rw [← hgh] at hT
  have HT := Lib.hid hT
  clear hT
  go_wp2_with fail
  rw [← hgh]
  refine (Hcs.out.be (8 * (beside.size : Int)) 8 _ _ rfl (by omega) (by omega) (by omega)).mono ?_
  rintro e w6 ⟨rfl, hb6⟩
  have HT6 := Lib.hid (HT.out.below hb6)
  replace hB6 := hB6.trans (hb6.mono hB6.size)
  clear hb6 HT hgh
  go_wp2_with fail
  refine (Hcs.out.be (8 * (sealed.size : Int)) 8 _ _ rfl (by omega) (by omega) (by omega)).mono ?_
  rintro e w7 ⟨rfl, hb7⟩
  have HT7 := Lib.hid (HT6.out.below hb7)
  replace hB6 := hB6.trans (hb7.mono hB6.size)
  clear hb7 HT6
  have hcc : (strOfNums (be 8 (8 * (beside.size : Int)))).size + (strOfNums (be 8 (8 * (sealed.size : Int)))).size ≤ 9223372036854775807 := by rw [strOfNums_size, strOfNums_size, be_length, be_length]; omega
  go_wp2_with fail
  clear hcc
  have c0 := HT7.out.cell (i := 0) (v := .int .u64 ((hiV (tagH K)).toNat : Int)) rfl
  have c1 := HT7.out.cell (i := 1) (v := .int .u64 ((loV (tagH K)).toNat : Int)) rfl
  have hgl := HT7.out.lt
  obtain ⟨SZ, hSZ⟩ : ∃ SZ, SZ = strOfNums (be 8 (8 * (beside.size : Int))) ++ strOfNums (be 8 (8 * (sealed.size : Int))) := ⟨_, rfl⟩
  rw [← hSZ]
  obtain ⟨FA, hFA⟩ : ∃ FA, FA = strOfNums (full (byt beside)) := ⟨_, rfl⟩
  obtain ⟨FS, hFS⟩ : ∃ FS, FS = strOfNums (full (byt sealed)) := ⟨_, rfl⟩
  obtain ⟨Y, hY⟩ : ∃ Y, Y = ghV (tagH K) (tagIn (byt beside) (byt sealed)) (tagM (byt beside) (byt sealed)) := ⟨_, rfl⟩
  have hbt : byt (FA ++ FS ++ SZ) = tagIn (byt beside) (byt sealed) := by
    rw [hFA, hFS, hSZ, byt_append, byt_append, byt_append, byt_nums _ (full_B8 (byt_mem _)), byt_nums _ (full_B8 (byt_mem _)), byt_nums _ (be_range _ _), byt_nums _ (be_range _ _), tagIn, byt_length, byt_length, List.append_assoc, List.append_assoc, List.append_assoc]
  have hsz : (FA ++ FS ++ SZ).size = 16 * tagM (byt beside) (byt sealed) := by rw [← byt_length, hbt, tagIn_length]
  have hm : tagM (byt beside) (byt sealed) ≤ 100000 := by rw [tagM, byt_length, byt_length]; omega
  have hss : FA.size + FS.size + SZ.size = 16 * tagM (byt beside) (byt sealed) := by rw [← hsz, ByteArray.size_append, ByteArray.size_append]
  have hn1 : ¬ (9223372036854775807 < FA.size + FS.size) := by omega
  have hn2 : ¬ (9223372036854775807 < FA.size + FS.size + SZ.size) := by omega
  have HFA : Hid (∀ w', Calls Try.prog 33 #[.string beside] w' fun e w'' => e = .returned (.string FA) ∧ Below w'.heap.size w' w'') := Lib.hid (by rw [hFA]; exact fun w' => Hcs.out.fill beside w' (by omega))
  have HFS : Hid (∀ w', Calls Try.prog 33 #[.string sealed] w' fun e w'' => e = .returned (.string FS) ∧ Below w'.heap.size w' w'') := Lib.hid (by rw [hFS]; exact fun w' => Hcs.out.fill sealed w' (by omega))
  have HGH : Hid (∀ w', Calls Try.prog 32 #[.agg #[.int .u64 ((hiV (tagH K)).toNat : Int), .int .u64 ((loV (tagH K)).toNat : Int)], .string (FA ++ FS ++ SZ)] w' fun e w'' => e = .returned (.agg #[.int .u64 ((hiV Y).toNat : Int), .int .u64 ((loV Y).toNat : Int)]) ∧ Below w'.heap.size w' w'') :=
    Lib.hid (by
      intro w'
      have := Hcs.out.ghash (tagH K) (FA ++ FS ++ SZ) (tagM (byt beside) (byt sealed)) w' hsz hm
      rw [hbt, ← hY] at this
      exact this)
  have HTX : Hid (∀ w', Calls Try.prog 34 #[.agg #[.int .u64 ((hiV Y).toNat : Int), .int .u64 ((loV Y).toNat : Int)]] w' fun e w'' => e = .returned (.string (strOfNums (vtext Y))) ∧ Below w'.heap.size w' w'') := Lib.hid (fun w' => Hcs.out.text Y w')
  have HY := Lib.hid hY
  clear hSZ hFA hFS hY hbt hsz hss hm
  have HB7 := Lib.hid hB6
  clear hB6
  go_region_held3 (fun w' => w'.cell? ⟨gh, 0, none⟩ = some (.int .u64 ((hiV (tagH K)).toNat : Int)) ∧ w'.cell? ⟨gh, 1, none⟩ = some (.int .u64 ((loV (tagH K)).toNat : Int))) (go_keep)
    (first
      | (go_at_call 33; (with_reducible refine (HFA.out _).mono ?_); rintro e w8 ⟨rfl, hb8⟩; have a0 := cell_below (w := w7.drew) c0 hb8 hgl; have a1 := cell_below (w := w7.drew) c1 hb8 hgl; have l8 : gh < w8.heap.size := Nat.lt_of_lt_of_le hgl hb8.size)
      | (go_at_call 33; (with_reducible refine (HFS.out _).mono ?_); rintro e w9 ⟨rfl, hb9⟩; have b0 := cell_below a0 hb9 l8; have b1 := cell_below a1 hb9 l8; have l9 : gh < w9.heap.size := Nat.lt_of_lt_of_le l8 hb9.size)
      | (go_at_call 32; (with_reducible refine (HGH.out _).mono ?_); rintro e w10 ⟨rfl, hb10⟩; have d0 := cell_below b0 hb10 l9; have d1 := cell_below b1 hb10 l9; have l10 : gh < w10.heap.size := Nat.lt_of_lt_of_le l9 hb10.size)
      | (go_at_call 34; (with_reducible refine (HTX.out _).mono ?_); rintro e w11 ⟨rfl, hb11⟩; have e0 := cell_below d0 hb11 l10; have e1 := cell_below d1 hb11 l10))
  have hb11' : Below w.heap.size w w11 := ((((HB7.out.drew).trans (hb8.mono HB7.out.size)).trans (hb9.mono (Nat.le_trans HB7.out.size hb8.size))).trans (hb10.mono (Nat.le_trans HB7.out.size (Nat.le_trans hb8.size hb9.size)))).trans (hb11.mono (Nat.le_trans HB7.out.size (Nat.le_trans hb8.size (Nat.le_trans hb9.size hb10.size))))
  have HB11 := Lib.hid hb11'
  have HE1 : Hid (byt (nonce ++ strOfNums (be 4 1)) = byt nonce ++ [0, 0, 0, 1]) := Lib.hid (by rw [byt_append, byt_nums _ (be_range _ _), be41])
  have HS1 : Hid ((nonce ++ strOfNums (be 4 1)).size = 16) := Lib.hid (by rw [ByteArray.size_append, strOfNums_size, be_length, hs])
  have hcc : nonce.size + (strOfNums (be 4 1)).size ≤ 9223372036854775807 := by rw [strOfNums_size, be_length]; omega
  obtain ⟨G, hG⟩ : ∃ G, G = encL K (byt (nonce ++ strOfNums (be 4 1))) := ⟨_, rfl⟩
  have hGl : G.length = 16 := by rw [hG, encL_length, byt_length]; exact HS1.out
  have hG8 : ∀ x ∈ G, 0 ≤ x ∧ x ≤ 255 := by rw [hG]; exact B8_mem (encL_B8 K (byt_B8 _))
  have HX : Hid (xorB (byt (strOfNums (vtext Y))) (byt (strOfNums G)) (strOfNums (vtext Y)).size = tagL K (byt nonce) (byt beside) (byt sealed)) := Lib.hid (by
    rw [byt_nums _ (vtext_B8 _), byt_nums _ hG8, strOfNums_size, vtext_length, xorB_xorL _ _ _ (vtext_length _), tagL, ← HY.out, hG, HE1.out])
  have HGs : Hid ((strOfNums G).size = 16) := Lib.hid (by rw [strOfNums_size]; exact hGl)
  have HVs : Hid ((strOfNums (vtext Y)).size = 16) := Lib.hid (by rw [strOfNums_size, vtext_length])
  have HG := Lib.hid hG
  clear c0 c1 a0 a1 b0 b1 d0 d1 e0 e1 hgl l8 l9 l10 hb8 hb9 hb10 hb11 hn1 hn2 HB7 HFA HFS HGH HTX hb11' hG hGl hG8
  go_wp2_with fail
  refine (Hcs.out.be 1 4 _ _ rfl (by omega) (by omega) (by omega)).mono ?_
  rintro e w12 ⟨rfl, hb12⟩
  have HB12 := Lib.hid (HB11.out.trans (hb12.mono HB11.out.size))
  clear hb12 HB11
  go_wp2_with fail
  refine (encrypt_any _ g gb gq cap K _ (HC.out.below HB12.out) HS1.out).mono ?_
  rintro e w13 ⟨rfl, hb13⟩
  rw [← HG.out]
  have HB13 := Lib.hid (HB12.out.trans (hb13.mono HB12.out.size))
  clear hb13 HB12 hcc
  go_wp2_with fail
  refine (xored_any _ _ _ (by rw [HVs.out]; omega) (by rw [HVs.out, HGs.out]; exact Nat.le_refl _) (by rw [HGs.out]; omega)).mono ?_
  rintro e w14 ⟨rfl, hb14⟩
  rw [HX.out]
  have HB14 := Lib.hid (HB13.out.trans (hb14.mono HB13.out.size))
  clear hb14 HB13
  go_wp2_with fail
  go_ret
  exact ⟨rfl, HB14.out⟩

/-- SealText's condition. -/
def sealB (key nonce beside text : ByteArray) : Bool := decide (key.size = 16 ∧ nonce.size = 12 ∧ beside.size ≤ 1500 ∧ text.size ≤ 1500)
set_option maxHeartbeats 1000000 in
theorem iseal_yes (hcs : CsI) (hok : ∀ (a b c : ByteArray) (w : World), a.size = 16 → b.size = 12 → c.size ≤ 1500 → Calls Try.prog 14 #[.string a, .string b, .string c] w fun e w' => e = .returned (.bool true) ∧ Below w.heap.size w w') (w : World) (key nonce beside text : ByteArray) (h1 : key.size = 16) (h2 : nonce.size = 12) (h3 : beside.size ≤ 1500) (h4 : text.size ≤ 1500) :
    Calls Try.prog 8 #[.string key, .string nonce, .string beside, .string text] w fun e w' =>
      e = .returned (.tuple #[.string (strOfNums (sealL (ks (byt key) 40).1 (byt nonce) (byt beside) (byt text))), .bool true]) ∧ Below w.heap.size w w' := by
  have Hcs := Lib.hid hcs
  have HOK := Lib.hid (hok key nonce beside w h1 h2 h3)
  have H1 := Lib.hid h1
  have H2 := Lib.hid h2
  clear hcs hok h1 h2
  obtain ⟨K, hK⟩ : ∃ K, K = (ks (byt key) 40).1 := ⟨_, rfl⟩
  have HK := Lib.hid hK
  obtain ⟨S, hS⟩ : ∃ S, S = strOfNums (cntL K (byt nonce) (byt text)) := ⟨_, rfl⟩
  have hSl : S.size = text.size := by rw [hS, strOfNums_size, cntL, cntTo_length, byt_length]
  have hSb : byt S = cntL K (byt nonce) (byt text) := by
    rw [hS]
    refine byt_nums _ ?_
    intro x hx
    simp only [cntL, cntTo, List.mem_map] at hx
    obtain ⟨j, _, rfl⟩ := hx
    exact bits_u8 _ _ _
  have HS := Lib.hid hS
  have HSb := Lib.hid hSb
  rw [← hK]
  have HSl := Lib.hid hSl
  have htl : (strOfNums (tagL K (byt nonce) (byt beside) (byt S))).size = 16 := by rw [strOfNums_size, tagL, xorL, fillTo_length]
  have hcc : S.size + (strOfNums (tagL K (byt nonce) (byt beside) (byt S))).size ≤ 9223372036854775807 := by omega
  have hd : decide ((text.size : Int) > 1500) = false := by simp; omega
  have hS5 : S.size ≤ 1500 := by omega
  clear hK hS hSb hSl htl
  go_enter Try.func8, Try.ntmps8
  go_wp2_with fail
  refine HOK.out.mono ?_
  rintro e w2 ⟨rfl, hb2⟩
  go_wp2_with fail
  refine (cipherOf_any key _ H1.out).mono ?_
  rintro e w3 ⟨g, gb, gk, cap, rfl, hC, hb3⟩
  rw [← HK.out] at hC
  have HC := Lib.hid hC
  have HB3 := Lib.hid (hb2.trans (hb3.mono hb2.size))
  clear hC hb2 hb3
  go_wp2_with fail
  refine (turned_any Hcs.out _ g gb gk cap K HC.out nonce text H2.out (by omega)).mono ?_
  rintro e w4 ⟨rfl, hb4⟩
  rw [← HS.out]
  have HC4 := Lib.hid (HC.out.below hb4)
  have HB4 := Lib.hid (HB3.out.trans (hb4.mono HB3.out.size))
  clear hb4 HB3 HC
  go_wp2_with fail
  refine (itag_any Hcs.out _ g gb gk cap K HC4.out nonce beside S H2.out (by omega) (by omega)).mono ?_
  rintro e w5 ⟨rfl, hb5⟩
  have HB5 := Lib.hid (HB4.out.trans (hb5.mono HB4.out.size))
  clear hb5 HB4 HC4
  have HR : Hid (S ++ strOfNums (tagL K (byt nonce) (byt beside) (byt S)) = strOfNums (sealL K (byt nonce) (byt beside) (byt text))) := Lib.hid (by
    rw [sealL, HSb.out, HS.out]
    apply ByteArray.ext
    simp [strOfNums])
  go_wp2_with fail
  go_ret2
  exact ⟨ret_sb HR.out, HB5.out⟩
set_option maxHeartbeats 1000000 in
theorem iseal_no (b : Bool) (w : World) (key nonce beside text : ByteArray) (hok : Calls Try.prog 14 #[.string key, .string nonce, .string beside] w fun e w' => e = .returned (.bool b) ∧ Below w.heap.size w w') (ht : text.size ≤ 9223372036854775807) (hb : b = true → 1500 < text.size) :
    Calls Try.prog 8 #[.string key, .string nonce, .string beside, .string text] w fun e w' =>
      e = .returned (.tuple #[.string ⟨#[]⟩, .bool false]) ∧ Below w.heap.size w w' := by
  have HOK := Lib.hid hok
  clear hok
  cases b
  · clear hb
    go_enter Try.func8, Try.ntmps8
    go_wp2_with fail
    refine HOK.out.mono ?_
    rintro e w2 ⟨rfl, hb2⟩
    have HB := Lib.hid hb2
    clear hb2
    go_wp2_with fail
    go_ret2
    exact ⟨rfl, HB.out⟩
  · have hd : decide ((text.size : Int) > 1500) = true := by have := hb rfl; simp; omega
    clear hb
    go_enter Try.func8, Try.ntmps8
    go_wp2_with fail
    refine HOK.out.mono ?_
    rintro e w2 ⟨rfl, hb2⟩
    have HB := Lib.hid hb2
    clear hb2
    go_wp2_with fail
    go_ret2
    exact ⟨rfl, HB.out⟩
end Go.Proofs.Ytefhhhdcgonmgaa.Hb
