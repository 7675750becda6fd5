import Derived.Test.YtefhhhdcgonmgaaHbLow
import Derived.Test.YtefhhhdcgonmgaaHbCiph
import Derived.RegionTactic
import Derived.BigRegion
namespace Go.Proofs.Ytefhhhdcgonmgaa.Hb
open Go.RowKit
set_option linter.unusedVariables false

/-- An empty slice of the call's own. -/
theorem OwnS.empty (base : Nat) (w : World) (hb : base ≤ w.heap.size) (T : TypeId) : OwnS base (w.alloc (.cells #[] T)) (.slice (some ⟨w.heap.size, 0, none⟩) 0 0) [] :=
  ⟨w.heap.size, 0, #[], T, (0, 0), by simp, hb, heap_alloc_new w _, rfl, by simp, by simp, by simp⟩

theorem keys_step {base gk cap t n : Nat} {L P : List Int} {wr : World} (ho : OwnS base wr (.slice (some ⟨gk, 0, none⟩) n cap) (u8s L)) (hn : L.length = n) (hn2 : n < 100000) (ht : Row wr t (u8s P)) (hne : t ≠ gk) (hbw : base ≤ wr.heap.size) (x : Int) :
    ∃ q c2 w2, (Builtin.append_ #[32, 32] 32 #[.slice (some ⟨gk, 0, none⟩) n cap, .slice (some ⟨wr.heap.size, 0, none⟩) 1 1]).run Try.prog (wr.alloc (.cells #[.int .u8 x] 5)).drew = .ok (.slice (some ⟨q, 0, none⟩) (n + 1) c2) w2 ∧
      OwnS base w2 (.slice (some ⟨q, 0, none⟩) (n + 1) c2) (u8s (L ++ [x])) ∧ Row w2 t (u8s P) ∧ t ≠ q ∧ Below base wr w2 := by
  subst hn
  obtain ⟨i0, hi, hz0, hz1, hz2⟩ := info_parts A_info
  have hW : Below wr.heap.size wr (wr.alloc (.cells #[.int .u8 x] 5)).drew := ((Below.refl _ _).alloc (Nat.le_refl _) _).drew
  have ho' := ho.below hW
  have hlu : (u8s L).length = L.length := u8s_length L
  obtain ⟨v', w2, hrun, hown, hgr, hnew⟩ := append_ownS 32 32 5 i0 (.int .u8 0) 1 Try.underlying32 hi hz0 hz1 hz2 rfl ho' (Nat.le_trans hbw hW.size) ⟨wr.heap.size, 0, none⟩ 1 (.int .u8 x)
    (by rw [World.cell?_drew]; simp [World.cell?_alloc_at]) rfl (by simp [maxLen]; omega) (by simp; omega)
  obtain ⟨q, c2, rfl, hq, hrow⟩ := hown.row
  have htl := ht.lt
  have e3 : (u8s L ++ [Value.int .u8 x]).length = L.length + 1 := by simp
  have e2 : u8s (L ++ [x]) = u8s L ++ [Value.int .u8 x] := by simp [u8s]
  rw [e3] at hrun hown hnew
  refine ⟨q, c2, w2, hrun, by rw [e2]; exact hown, row_grown hgr (ht.below hW) (by simp [Value.ownBlock]; exact fun e => hne e.symm), ?_, ?_⟩
  · rcases hnew with e | e
    · simp [Value.ownBlock] at e
      omega
    · have h1 := e q rfl
      have h2 := hW.size
      omega
  · exact (hW.mono hbw).grown hgr (Nat.le_trans hbw hW.size) (by intro k hk; exact (ho.lt k hk).1)


set_option maxRecDepth 100000 in
set_option maxHeartbeats 2000000 in
theorem l3Keys_any (key : ByteArray) (w : World) (hs : key.size = 16) :
    Calls Try.prog 19 #[.string key] w fun e w' => ∃ g cap, e = .returned (.slice (some ⟨g, 0, none⟩) 176 cap) ∧ OwnS w.heap.size w' (.slice (some ⟨g, 0, none⟩) 176 cap) (u8s (ks (byt key) 40).1) ∧ Below w.heap.size w w' := by
  have HS := Lib.hid hs
  have ho0 := OwnS.bytes w 5 key
  have hb0 := below_bytes (Below.refl w.heap.size w) (Nat.le_refl _) 5 key
  have kc := fun w => Lib.run_convert_string_bytes (P := Try.prog) w 9 32 5 key Try.underlying9 Try.underlying32 Try.underlying5
  obtain ⟨W1, hW1⟩ : ∃ W1, W1 = Lib.bytesWorld w 5 key := ⟨_, rfl⟩
  have kc1 := kc w
  rw [← hW1] at kc1 ho0 hb0
  obtain ⟨c0, hc0⟩ : ∃ c, c = grownCap w key.size 0 5 := ⟨_, rfl⟩
  rw [← hc0] at kc1 ho0
  clear hs kc hW1 hc0
  go_enter Try.func19, Try.ntmps19
  go_wp2
  go_loopg [3, 4, 5, 6, 7] 40 (fun q v3 v4 v5 v6 v7 wr => ∃ (m gk cap : Nat), 4 ≤ m ∧ q + m = 44 ∧ v3 = .slice (some ⟨gk, 0, none⟩) (4 * m) cap ∧ v4 = .int .u8 (ks (byt key) (m - 4)).2 ∧ v5 = .int .i64 (m : Int) ∧ OwnS w.heap.size wr (.slice (some ⟨gk, 0, none⟩) (4 * m) cap) (u8s (ks (byt key) (m - 4)).1) ∧ Below w.heap.size w wr)
  case atStart =>
    refine ⟨4, w.heap.size, c0, by omega, by omega, by rw [HS.out], rfl, rfl, ?_, hb0⟩
    rw [HS.out] at ho0
    exact ho0
  case round =>
    clear ho0 hb0 kc1
    obtain ⟨m, gk, cap, hm4, hm44, rfl, rfl, rfl, ho, hb⟩ := hrel
    by_cases hlt : m < 44
    · have hlen : (ks (byt key) (m - 4)).1.length = 4 * m := by rw [ks_length _ (by rw [byt_length]; exact HS.out)]; omega
      have h8 := ks_B8 (byt_B8 key) (m - 4)
      obtain ⟨L, hLd⟩ : ∃ L, L = (ks (byt key) (m - 4)).1 := ⟨_, rfl⟩
      obtain ⟨y, hyd⟩ : ∃ y, y = (ks (byt key) (m - 4)).2 := ⟨_, rfl⟩
      have HST : Hid (ks (byt key) (m + 1 - 4) = (ksIn L (ksW L y m) m 4, if m % 4 = 0 then gm y 2 else y)) := by
        rw [hLd, hyd]
        exact Lib.hid (ks_step (byt key) m hm4)
      rw [← hLd] at ho hlen h8
      rw [← hyd]
      have HL := Lib.hid hlen
      have b0 := h8 (4 * m - 4)
      have b1 := h8 (4 * m - 4 + 1)
      have b2 := h8 (4 * m - 4 + 2)
      have b3 := h8 (4 * m - 4 + 3)
      have x0 := ho.cell (u8s_at (xs := L) (i := 4 * m - 4) (by omega))
      have x1 := ho.cell (u8s_at (xs := L) (i := 4 * m - 4 + 1) (by omega))
      have x2 := ho.cell (u8s_at (xs := L) (i := 4 * m - 4 + 2) (by omega))
      have x3 := ho.cell (u8s_at (xs := L) (i := 4 * m - 4 + 3) (by omega))
      obtain ⟨a0, ha0⟩ : ∃ a, a = L.getD (4 * m - 4) 0 := ⟨_, rfl⟩
      obtain ⟨a1, ha1⟩ : ∃ a, a = L.getD (4 * m - 4 + 1) 0 := ⟨_, rfl⟩
      obtain ⟨a2, ha2⟩ : ∃ a, a = L.getD (4 * m - 4 + 2) 0 := ⟨_, rfl⟩
      obtain ⟨a3, ha3⟩ : ∃ a, a = L.getD (4 * m - 4 + 3) 0 := ⟨_, rfl⟩
      rw [← ha0] at x0 b0
      rw [← ha1] at x1 b1
      rw [← ha2] at x2 b2
      rw [← ha3] at x3 b3
      have hW : ksW L y m = if m % 4 = 0 then [bits .xor .u8 (sb a1) y, sb a2, sb a3, sb a0] else [a0, a1, a2, a3] := by
        rw [ha0, ha1, ha2, ha3]
        rfl
      have HW := Lib.hid hW
      obtain ⟨b00, b01⟩ := b0
      obtain ⟨b10, b11⟩ := b1
      obtain ⟨b20, b21⟩ := b2
      obtain ⟨b30, b31⟩ := b3
      have hgk := (ho.lt gk rfl).2
      have hcap : 4 * m ≤ cap := by
        obtain ⟨g', cap', cur, T, mm, e, h1, h2, h3, h4, _⟩ := ho
        simp at e
        obtain ⟨_, _, rfl⟩ := e
        rw [u8s_length, hlen] at h4
        exact h4
      have hal : Below wr.heap.size wr (wr.alloc (.cells #[] 5)) := (Below.refl _ _).alloc (Nat.le_refl _) _
      have y0 := cell_below x0 hal hgk
      have y1 := cell_below x1 hal hgk
      have y2 := cell_below x2 hal hgk
      have y3 := cell_below x3 hal hgk
      obtain ⟨i0, hi, hz0, hz1, hz2⟩ := info_parts A_info
      obtain ⟨tv, w2, hrun, hown, hgr, hnew⟩ := append_many 32 32 5 i0 (.int .u8 0) 1 Try.underlying32 hi hz0 hz1 hz2 rfl (.inr (OwnS.empty wr.heap.size wr (Nat.le_refl _) 5)) hal.size ⟨gk, 4 * m - 4, none⟩ (cap - (4 * m - 4)) 4 (u8s [a0, a1, a2, a3]) (by simp) (by omega)
        (by
          intro j u hj
          rw [add_none]
          rcases (show j = 0 ∨ j = 1 ∨ j = 2 ∨ j = 3 ∨ 4 ≤ j by omega) with rfl | rfl | rfl | rfl | h
          · simp [u8s] at hj; rw [← hj]; exact y0
          · simp [u8s] at hj; rw [← hj]; exact y1
          · simp [u8s] at hj; rw [← hj]; exact y2
          · simp [u8s] at hj; rw [← hj]; exact y3
          · rw [List.getElem?_eq_none (by simpa using h)] at hj
            cases hj) (u8s_one _) (by simp [maxLen]) (by simp)
      obtain ⟨g2, c2, rfl, hg2, hr2⟩ := hown.row
      have hb2 : Below wr.heap.size wr w2 := (hal.grown hgr hal.size (fun k hk => by simp [Value.ownBlock] at hk; omega))
      have hlen4 : ([] ++ u8s [a0, a1, a2, a3]).length = 4 := by simp
      rw [hlen4] at hrun hown
      clear y0 y1 y2 y3 hal hi hz0 hz1 hz2 hnew hgr hown x0 x1 x2 x3 hLd hyd ha0 ha1 ha2 ha3 hW h8 hlen
      have h44 : 4 * m - (4 * m - 4) = 4 := by omega
      have hrun2 : (Builtin.append_ #[32, 32] 32 #[.slice (some ⟨wr.heap.size, 0, none⟩) 0 0, .slice (some ⟨gk, 4 * m - 4, none⟩) (4 * m - (4 * m - 4)) (cap - (4 * m - 4))]).run Try.prog (wr.alloc (.cells #[] 5)) = .ok (.slice (some ⟨g2, 0, none⟩) 4 c2) w2 := by
        rw [h44]
        exact hrun
      have HR2 := Lib.hid hrun2
      clear hrun hrun2 h44
      have Ho := Lib.hid ho
      have q1 : 4 * m - 4 ≤ 4 * m := by omega
      have t0 := hr2.cell (i := 0) (v := .int .u8 a0) (by simp [u8s])
      have t1 := hr2.cell (i := 1) (v := .int .u8 a1) (by simp [u8s])
      have t2 := hr2.cell (i := 2) (v := .int .u8 a2) (by simp [u8s])
      have t3 := hr2.cell (i := 3) (v := .int .u8 a3) (by simp [u8s])
      have ho2 := ho.below hb2
      have hb3 := hb.trans (hb2.mono hb.size)
      have hbs := hb.size
      have Hho2 := Lib.hid ho2
      have Hb3 := Lib.hid hb3
      have Hr2 := Lib.hid hr2
      have hg2' : g2 < w2.heap.size := hr2.lt
      clear ho hb ho2 hb3 hr2 Ho
      go_upto_if 25 with ((with_reducible refine at_op 22 ?_); refine wpList_append_run _ rfl (.tmp 14) (.tmp 21) 32 32 rfl rfl rfl rfl HR2.out ?_)
      clear HR2
      go_cut [3, 4, 5, 6] from 10 to 68 (fun v3 v4 v5 v6 wx => ∃ (p0 p1 p2 p3 z : Int) (t ct : Nat), v3 = .slice (some ⟨gk, 0, none⟩) (4 * m) cap ∧ v4 = .int .u8 z ∧ v5 = .int .i64 (m : Int) ∧ v6 = .slice (some ⟨t, 0, none⟩) 4 ct ∧ t ≠ gk ∧ Hid (z = if m % 4 = 0 then gm y 2 else y) ∧ Hid ([p0, p1, p2, p3] = ksW L y m) ∧ w.heap.size ≤ t ∧ Hid (Row wx t (u8s [p0, p1, p2, p3])) ∧ Hid (OwnS w.heap.size wx (.slice (some ⟨gk, 0, none⟩) (4 * m) cap) (u8s L)) ∧ Hid (Below w.heap.size w wx))
      case first =>
        by_cases hmod : m % 4 = 0
        · have hmi : ((m : Int) % 4 == 0) = true := by simp; omega
          have HG := Lib.hid hmod
          clear hmod
          go_wp2_with fail
          refine region_tail 18 (by kernel_rfl) (by kernel_rfl) ?_
          simp only [List.take_succ_cons, List.take_zero, List.drop_succ_cons, List.drop_zero]
          repeat still_step
          still_call ((l3Sub_sb _ _ b10 b11).mono fun e w' h => ⟨h.1, h.2.symm⟩)
          repeat still_step
          still_call ((l3Sub_sb _ _ b20 b21).mono fun e w' h => ⟨h.1, h.2.symm⟩)
          repeat still_step
          still_call ((l3Sub_sb _ _ b30 b31).mono fun e w' h => ⟨h.1, h.2.symm⟩)
          repeat still_step
          still_call ((l3Sub_sb _ _ b00 b01).mono fun e w' h => ⟨h.1, h.2.symm⟩)
          repeat still_step
          refine wpStill_nil ?_
          go_wp2_with (go_at_call 37; refine (l3Mul_any _ _ _ (by decide) (by decide)).mono ?_; rintro e w' ⟨rfl, rfl⟩)
          go_meet
          have hal : Below w2.heap.size w2 (w2.drew.alloc (.cells #[.int .u8 (bits .xor .u8 (sb a1) y), .int .u8 (sb a2), .int .u8 (sb a3), .int .u8 (sb a0)] 5)) := ((Below.refl _ _).drew.alloc (Nat.le_refl _) _)
          exact ⟨_, _, _, _, _, _, _, rfl, rfl, rfl, rfl, by omega, Lib.hid (by rw [if_pos HG.out]), Lib.hid (by rw [HW.out, if_pos HG.out]), by omega, Lib.hid (Row.new w2.drew _ _), Lib.hid (Hho2.out.below hal), Lib.hid (Hb3.out.trans (hal.mono (by omega)))⟩
        · have hmi : ((m : Int) % 4 == 0) = false := by simp; omega
          have HG := Lib.hid hmod
          clear hmod
          go_wp2_with fail
          go_meet
          exact ⟨a0, a1, a2, a3, _, g2, c2, rfl, rfl, rfl, rfl, by omega, Lib.hid (by rw [if_neg HG.out]), Lib.hid (by rw [HW.out, if_neg HG.out]), by omega, Hr2, Hho2, Hb3⟩
      case rest =>
        clear hg2 hcap HW Hr2 Hho2 Hb3 hb2 b00 b01 b10 b11 b20 b21 b30 b31 t0 t1 t2 t3 hg2' hgk
        obtain ⟨p0, p1, p2, p3, z, t, ct, rfl, rfl, rfl, rfl, htg, HZ, HP, hbt, Ht, Ho, Hb⟩ := hcut
        obtain ⟨P, hP⟩ : ∃ P, P = [p0, p1, p2, p3] := ⟨_, rfl⟩
        have hPl : P.length = 4 := by rw [hP]; rfl
        have HPl := Lib.hid hPl
        rw [← hP] at HP Ht
        clear hP hPl
        go_wp2_with fail
        go_loopg [49, 7, 3] 4 (fun q v49 v7 v3 wq => ∃ (k gk cap : Nat), q + k = 4 ∧ v49 = .int .i64 (k : Int) ∧ v3 = .slice (some ⟨gk, 0, none⟩) (4 * m + k) cap ∧ t ≠ gk ∧ Hid (Row wq t (u8s P)) ∧ Hid (OwnS w.heap.size wq (.slice (some ⟨gk, 0, none⟩) (4 * m + k) cap) (u8s (ksIn L P m k))) ∧ Hid (Below w.heap.size w wq))
        case atStart => exact ⟨0, gk, cap, by omega, rfl, rfl, htg, Ht, Ho, Hb⟩
        case round =>
          clear Ht Ho Hb htg
          obtain ⟨k, gk, cap, hk4, rfl, rfl, htg, Ht, Ho, Hb⟩ := hrel
          by_cases hk : k < 4
          · have hd4 : decide ((k : Int) < 4) = true := by simp; omega
            have hll : (ksIn L P m k).length = 4 * m + k := by rw [ksIn_length, HL.out]
            have d1 := Ho.out.cell (u8s_at (xs := ksIn L P m k) (i := 4 * m - 16 + k) (by omega))
            have d2 := Ht.out.cell (u8s_at (xs := P) (i := k) (by rw [HPl.out]; exact hk))
            obtain ⟨b, hb⟩ : ∃ b, b = (ksIn L P m k).getD (4 * m - 16 + k) 0 := ⟨_, rfl⟩
            obtain ⟨x, hx⟩ : ∃ x, x = P.getD k 0 := ⟨_, rfl⟩
            rw [← hb] at d1
            rw [← hx] at d2
            rw [show 4 * m - 16 + k = (4 * (m : Int) - 16 + (k : Int)).toNat by omega] at d1
            obtain ⟨q, c2, w2, s1, s2, s3, s4, s5⟩ := keys_step Ho.out hll (by omega) Ht.out htg Hb.out.size (bits .xor .u8 b x)
            have e : ksIn L P m k ++ [bits .xor .u8 b x] = ksIn L P m (k + 1) := by
              rw [ksIn, hb, hx]
            rw [e] at s2
            have S1 := Lib.hid s1
            have S2 := Lib.hid s2
            have S3 := Lib.hid s3
            have S5 := Lib.hid (Hb.out.trans s5)
            have q1 : IntKind.i64.wrap (4 * (m : Int)) = 4 * (m : Int) := by rw [IntKind.wrap_i64]; omega
            have q2 : IntKind.i64.wrap (4 * (m : Int) - 16) = 4 * (m : Int) - 16 := by rw [IntKind.wrap_i64]; omega
            have q3 : IntKind.i64.wrap (4 * (m : Int) - 16 + (k : Int)) = 4 * (m : Int) - 16 + (k : Int) := by rw [IntKind.wrap_i64]; omega
            have q4 : 0 ≤ 4 * (m : Int) - 16 + (k : Int) := by omega
            have q9 : 4 * (m : Int) - 16 + (k : Int) < 4 * (m : Int) + (k : Int) := by omega
            have q5 : (k : Int) < 4 := by omega
            have q6 : 0 ≤ (k : Int) := by omega
            clear hb hx e s1 s2 s3 s5 hll
            go_wp2_with fail
            go_region_law (refine step_append_run rfl (.tmp 52) (.tmp 66) 32 32 rfl rfl rfl rfl S1.out ?_)
            clear q1 q2 q3 q4 q9 q5 q6
            all_goals
              go_wp2_with fail
              go_roundg (3 - k)
              case measure => omega
              case rel => exact ⟨k + 1, q, c2, by omega, by go_num, rfl, s4, S3, S2, S5⟩
          · obtain rfl : k = 4 := by omega
            clear hk4
            go_wp2_with fail
            go_roundg (43 - m)
            case measure => omega
            case rel =>
              refine ⟨m + 1, gk, cap, by omega, by omega, by rw [show 4 * (m + 1) = 4 * m + 4 by omega], by rw [HST.out, HZ.out], by go_num, ?_, Hb.out⟩
              rw [HST.out, show 4 * (m + 1) = 4 * m + 4 by omega, ← HP.out]
              exact Ho.out
    · obtain rfl : m = 44 := by omega
      have HO : Hid (OwnS w.heap.size wr (.slice (some ⟨gk, 0, none⟩) 176 cap) (u8s (ks (byt key) 40).1)) := Lib.hid ho
      have HB := Lib.hid hb
      clear ho hb
      go_wp2
      go_ret
      exact ⟨gk, cap, rfl, HO.out, HB.out⟩
end Go.Proofs.Ytefhhhdcgonmgaa.Hb
