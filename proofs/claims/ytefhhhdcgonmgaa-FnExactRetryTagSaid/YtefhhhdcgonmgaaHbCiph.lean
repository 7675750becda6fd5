import Derived.Test.YtefhhhdcgonmgaaHbRound
import Derived.Test.YtefhhhdcgonmgaaHbLow
import Derived.StillTailTactics
import Derived.Deep.LoopGhost
import Derived.Deep.Cut
import Derived.Deep.CutRange
import Derived.Deep.DeepCutAuto
namespace Go.Proofs.Ytefhhhdcgonmgaa.Hb
open Go.RowKit
set_option linter.unusedVariables false

def ksIn (L W : List Int) (i : Nat) : Nat → List Int
  | 0 => L
  | k + 1 => ksIn L W i k ++ [bits .xor .u8 ((ksIn L W i k).getD (4 * i - 16 + k) 0) (W.getD k 0)]
theorem ksIn_length (L W : List Int) (i k : Nat) : (ksIn L W i k).length = L.length + k := by
  induction k with
  | zero => rfl
  | succ k ih => rw [ksIn, List.length_append, ih]; simp; omega
def ksW (L : List Int) (by_ : Int) (i : Nat) : List Int :=
  let w := fun j => L.getD (4 * i - 4 + j) 0
  if i % 4 = 0 then [bits .xor .u8 (sb (w 1)) by_, sb (w 2), sb (w 3), sb (w 0)] else [w 0, w 1, w 2, w 3]
def ks (key : List Int) : Nat → List Int × Int
  | 0 => (key, 1)
  | n + 1 => (ksIn (ks key n).1 (ksW (ks key n).1 (ks key n).2 (n + 4)) (n + 4) 4, if (n + 4) % 4 = 0 then gm (ks key n).2 2 else (ks key n).2)
theorem ks_step (key : List Int) (m : Nat) (hm : 4 ≤ m) : ks key (m + 1 - 4) = (ksIn (ks key (m - 4)).1 (ksW (ks key (m - 4)).1 (ks key (m - 4)).2 m) m 4, if m % 4 = 0 then gm (ks key (m - 4)).2 2 else (ks key (m - 4)).2) := by
  obtain ⟨n, rfl⟩ : ∃ n, m = n + 4 := ⟨m - 4, by omega⟩
  rw [show n + 4 + 1 - 4 = n + 1 by omega, show n + 4 - 4 = n by omega]
  rfl
theorem ks_length (key : List Int) (h : key.length = 16) (n : Nat) : (ks key n).1.length = 16 + 4 * n := by
  induction n with
  | zero => exact h
  | succ n ih => rw [ks, ksIn_length, ih]; omega
def B8 (xs : List Int) : Prop := ∀ j, 0 ≤ xs.getD j 0 ∧ xs.getD j 0 ≤ 255
theorem B8_append {xs : List Int} (h : B8 xs) {x : Int} (h0 : 0 ≤ x) (h1 : x ≤ 255) : B8 (xs ++ [x]) := by
  intro j
  rw [List.getD_eq_getElem?_getD, List.getElem?_append]
  split
  · rw [← List.getD_eq_getElem?_getD]; exact h j
  · cases hj : [x][j - xs.length]? with
    | none => simp
    | some y =>
      have : y ∈ [x] := List.mem_of_getElem? hj
      simp at this
      subst this
      exact ⟨h0, h1⟩
theorem ksIn_B8 {L : List Int} (h : B8 L) (W : List Int) (i k : Nat) : B8 (ksIn L W i k) := by
  induction k with
  | zero => exact h
  | succ k ih => exact B8_append ih (bits_u8 _ _ _).1 (bits_u8 _ _ _).2
theorem ks_B8 {key : List Int} (h : B8 key) (n : Nat) : B8 (ks key n).1 := by
  induction n with
  | zero => exact h
  | succ n ih => exact ksIn_B8 ih _ _ _
theorem byt_B8 (s : ByteArray) : B8 (byt s) := by
  intro j
  rw [List.getD_eq_getElem?_getD]
  cases hj : (byt s)[j]? with
  | none => simp
  | some y =>
    have : y ∈ byt s := List.mem_of_getElem? hj
    obtain ⟨x, _, rfl⟩ := List.mem_map.1 this
    have := x.toNat_lt
    simp
    omega

theorem A_info : (Try.prog.info? 5).map (fun i => (i.zero, i.size, i.bytes)) = some (some (.int .u8 0), 1, 1) := by kernel_rfl

/-- What the making of keys keeps: the cipher's two cells, its table, the keys so far. -/
def KsInv (w0 : World) (g gb : Nat) (bk : List Int) (w : World) (L : List Int) : Prop :=
  ∃ gk cap, w.cell? ⟨g, 1, none⟩ = some (.slice (some ⟨gk, 0, none⟩) L.length cap) ∧ OwnS w0.heap.size w (.slice (some ⟨gk, 0, none⟩) L.length cap) (u8s L) ∧
    w.cell? ⟨g, 0, none⟩ = some (.pointer (some ⟨gb, 0, none⟩)) ∧ w.frozen? ⟨g, 1, none⟩ = false ∧
    Row w gb (u8s (boxTo 256 ++ bk)) ∧ gk ≠ g ∧ gk ≠ gb ∧ gb ≠ g ∧ w0.heap.size ≤ g ∧ Below w0.heap.size w0 w
theorem KsInv.lt {w0 : World} {g gb : Nat} {bk L : List Int} {w : World} (h : KsInv w0 g gb bk w L) : g < w.heap.size := by
  obtain ⟨gk, cap, c1, _⟩ := h
  exact World.block_lt_of_cell? w _ c1
theorem KsInv.below {w0 : World} {g gb : Nat} {bk L : List Int} {w w' : World} (h : KsInv w0 g gb bk w L) (hb : Below w.heap.size w w') : KsInv w0 g gb bk w' L := by
  obtain ⟨gk, cap, c1, ho, c0, hf, hr, n1, n2, n3, n4, hB⟩ := h
  have hlt : g < w.heap.size := World.block_lt_of_cell? w _ c1
  exact ⟨gk, cap, cell_below c1 hb hlt, ho.below hb, cell_below c0 hb hlt, by rw [hb.frozen (p := ⟨g, 1, none⟩) hlt]; exact hf, hr.below hb, n1, n2, n3, n4, hB.trans (hb.mono hB.size)⟩
theorem cell_grown {w w' : World} {row : Option Nat} (h : w.grownBy w' row) {a : Addr} {v : Value} (hc : w.cell? a = some v) (hn : row ≠ some a.block) : w'.cell? a = some v := by
  have := h.block a.block (World.block_lt_of_cell? w _ hc) (fun e => hn e.symm)
  simpa [World.cell?, this] using hc
theorem frozen_grown {w w' : World} {row : Option Nat} (h : w.grownBy w' row) {a : Addr} (hlt : a.block < w.heap.size) (hn : row ≠ some a.block) : w'.frozen? a = w.frozen? a := by
  have := h.block a.block hlt (fun e => hn e.symm)
  simp [World.frozen?, this]
theorem row_grown {w w' : World} {g : Nat} {row : Option Nat} {xs : List Value} (h : w.grownBy w' row) (hr : Row w g xs) (hn : row ≠ some g) : Row w' g xs :=
  hr.same (h.block g hr.lt (fun e => hn e.symm))
theorem KsInv.facts {w0 : World} {g gb : Nat} {bk L : List Int} {w : World} (h : KsInv w0 g gb bk w L) :
    ∃ gk cap, w.cell? ⟨g, 1, none⟩ = some (.slice (some ⟨gk, 0, none⟩) L.length cap) ∧ Row w gk (u8s L) ∧ L.length ≤ cap := by
  obtain ⟨gk, cap, c1, ho, _⟩ := h
  obtain ⟨g', cap', e, _, hr⟩ := ho.row
  obtain ⟨_, _, cur, _, _, e2, _, _, _, hl, _⟩ := ho
  simp at e e2
  obtain ⟨rfl, _, rfl⟩ := e
  exact ⟨gk, cap, c1, hr, by simp at hl; omega⟩
theorem box_cell {w : World} {gb : Nat} {bk : List Int} (h : Row w gb (u8s (boxTo 256 ++ bk))) {a : Int} (h0 : 0 ≤ a) (h1 : a ≤ 255) : w.cell? ⟨gb, a.toNat, none⟩ = some (.int .u8 (sb a)) := by
  have := h.cell (u8s_at (xs := boxTo 256 ++ bk) (i := a.toNat) (by rw [List.length_append, boxTo_length]; omega))
  rw [this, List.getD_eq_getElem?_getD, List.getElem?_append_left (by rw [boxTo_length]; omega), ← List.getD_eq_getElem?_getD, boxTo_get 256 (Nat.le_refl _) _ (by omega)]
  congr 3
  omega
theorem KsInv.more {w0 : World} {g gb : Nat} {bk L : List Int} {w : World} (h : KsInv w0 g gb bk w L) :
    w.cell? ⟨g, 0, none⟩ = some (.pointer (some ⟨gb, 0, none⟩)) ∧ Row w gb (u8s (boxTo 256 ++ bk)) ∧ g < w.heap.size ∧ gb < w.heap.size := by
  obtain ⟨gk, cap, c1, ho, c0, hf, hr, _⟩ := h
  exact ⟨c0, hr, World.block_lt_of_cell? w _ c0, hr.lt⟩
theorem KsInv.step {w0 : World} {g gb gk cap : Nat} {bk L : List Int} {w : World} (h : KsInv w0 g gb bk w L) (hcell : w.cell? ⟨g, 1, none⟩ = some (.slice (some ⟨gk, 0, none⟩) L.length cap)) (x : Int) (hL : L.length < 1000) :
    ∃ q c2 w2, (Builtin.append_ #[32, 32] 32 #[.slice (some ⟨gk, 0, none⟩) L.length cap, .slice (some ⟨w.heap.size, 0, none⟩) 1 1]).run Try.prog (w.alloc (.cells #[.int .u8 x] 5)).drew = .ok (.slice (some ⟨q, 0, none⟩) (L.length + 1) c2) w2 ∧
      w2.cell? ⟨g, 1, none⟩ = some (.slice (some ⟨gk, 0, none⟩) L.length cap) ∧ w2.frozen? ⟨g, 1, none⟩ = false ∧
      KsInv w0 g gb bk (w2.setCell ⟨g, 1, none⟩ (.slice (some ⟨q, 0, none⟩) (L.length + 1) c2)) (L ++ [x]) := by
  obtain ⟨gk', cap', c1, ho, c0, hf, hr, n1, n2, n3, n4, hB⟩ := h
  rw [hcell] at c1
  simp at c1
  obtain ⟨rfl, rfl⟩ := c1
  have hlt : g < w.heap.size := World.block_lt_of_cell? w _ hcell
  have hgb := hr.lt
  obtain ⟨i0, hi, hz0, hz1, hz2⟩ := info_parts A_info
  have hW : Below w.heap.size w (w.alloc (.cells #[.int .u8 x] 5)).drew := ((Below.refl _ _).alloc (Nat.le_refl _) _).drew
  have ho' := ho.below hW
  obtain ⟨v', w2, hrun, hown, hgr, hnew⟩ := append_ownS 32 32 5 i0 (.int .u8 0) 1 Try.underlying32 hi hz0 hz1 hz2 rfl ho' (Nat.le_trans hB.size hW.size) ⟨w.heap.size, 0, none⟩ 1 (.int .u8 x)
    (by rw [World.cell?_drew]; simp [World.cell?_alloc_at]) rfl (by simp [maxLen]; omega) (by simp; omega)
  have hne : (Value.slice (some ⟨gk, 0, none⟩) L.length cap).ownBlock ≠ some g := by simpa [Value.ownBlock] using n1
  have hne2 : (Value.slice (some ⟨gk, 0, none⟩) L.length cap).ownBlock ≠ some gb := by simpa [Value.ownBlock] using n2
  obtain ⟨q, c2, rfl, hq, hrow⟩ := hown.row
  have hgW : g < (w.alloc (.cells #[.int .u8 x] 5)).drew.heap.size := Nat.lt_of_lt_of_le hlt hW.size
  have hgbW : gb < (w.alloc (.cells #[.int .u8 x] 5)).drew.heap.size := Nat.lt_of_lt_of_le hgb hW.size
  have hqg : q ≠ g ∧ q ≠ gb := by
    rcases hnew with e | e
    · simp [Value.ownBlock] at e
      subst e
      exact ⟨n1, n2⟩
    · have := e q rfl
      omega
  have e1 : (L ++ [x]).length = (u8s L ++ [Value.int .u8 x]).length := by simp
  have e2 : u8s (L ++ [x]) = u8s L ++ [Value.int .u8 x] := by simp [u8s]
  have d1 := cell_grown hgr (cell_below hcell hW hlt) hne
  have d2 := frozen_grown hgr (a := ⟨g, 1, none⟩) hgW hne
  have d3 : (w.alloc (.cells #[.int .u8 x] 5)).drew.frozen? ⟨g, 1, none⟩ = false := by rw [hW.frozen (p := ⟨g, 1, none⟩) hlt]; exact hf
  have e3 : (u8s L ++ [Value.int .u8 x]).length = L.length + 1 := by simp
  rw [e3] at hrun hown
  refine ⟨q, c2, w2, hrun, d1, by rw [d2, d3], q, c2, ?_, ?_, ?_, ?_, ?_, hqg.1, hqg.2, n3, n4, ?_⟩
  · rw [e1, e3]
    exact World.cell?_setCell_same _ _ _ d1
  · rw [e1, e3, e2]
    exact hown.other (by simp [Value.ownBlock]; exact hqg.1) _
  · have := cell_grown hgr (cell_below c0 hW hlt) hne
    rw [World.cell?_setCell_other _ _ _ _ (by simp)]
    exact this
  · rw [World.frozen?_setCell, d2, d3]
  · exact (row_grown hgr (hr.below hW) hne2).other n3 _
  · exact ((hB.trans (hW.mono hB.size)).grown hgr (Nat.le_trans hB.size hW.size) (by intro k hk; have := (ho.lt k hk).1; exact this)).setCell n4 _

set_option maxRecDepth 100000 in
set_option maxHeartbeats 2000000 in
theorem cipherOf_any (key : ByteArray) (w : World) (hs : key.size = 16) :
    Calls Try.prog 15 #[.string key] w fun e w' => ∃ g gb gk cap, e = .returned (.pointer (some ⟨g, 0, none⟩)) ∧ CipherAt w' g gb gk cap (ks (byt key) 40).1 ∧ Below w.heap.size w w' := by
  have HS := Lib.hid hs
  have hsb := fun w => Lib.bytesWorld_size w 5 key
  have kc := fun w => Lib.run_convert_string_bytes (P := Try.prog) w 9 32 5 key Try.underlying9 Try.underlying32 Try.underlying5
  have hinv : ∀ (w1 : World) (bk : List Int), Row w1 w.heap.size (u8s (boxTo 256 ++ bk)) → Below w.heap.size w w1 →
      KsInv w (w1.heap.size + 1) w.heap.size bk ((Lib.bytesWorld w1 5 key).alloc (.cells #[.pointer (some ⟨w.heap.size, 0, none⟩), .slice (some ⟨w1.heap.size, 0, none⟩) key.size (grownCap w1 key.size 0 5)] 49)) (byt key) := by
    intro w1 bk hr hb
    have hlt := hr.lt
    have ho := OwnS.bytes w1 5 key
    have hbw := below_bytes (Below.refl w1.heap.size w1) (Nat.le_refl _) 5 key
    have hlk : (byt key).length = key.size := byt_length key
    have hal : Below (Lib.bytesWorld w1 5 key).heap.size (Lib.bytesWorld w1 5 key) ((Lib.bytesWorld w1 5 key).alloc (.cells #[.pointer (some ⟨w.heap.size, 0, none⟩), .slice (some ⟨w1.heap.size, 0, none⟩) key.size (grownCap w1 key.size 0 5)] 49)) := (Below.refl _ _).alloc (Nat.le_refl _) _
    refine ⟨w1.heap.size, grownCap w1 key.size 0 5, ?_, ?_, ?_, ?_, (hr.below hbw).below hal, by omega, by omega, by omega, by omega, (hb.trans (hbw.mono (by omega))).trans (hal.mono (by rw [hsb]; omega))⟩
    · rw [← hsb w1, World.cell?_alloc_at _ _ _ _ rfl, hlk]
      rfl
    · rw [hlk]
      obtain ⟨q, c, cur, T, m, h1, h2, h3⟩ := ho.below hal
      exact ⟨q, c, cur, T, m, h1, by omega, h3⟩
    · rw [← hsb w1, World.cell?_alloc_at _ _ _ _ rfl]
      rfl
    · rw [← hsb w1]
      exact (Row.new (Lib.bytesWorld w1 5 key) #[.pointer (some ⟨w.heap.size, 0, none⟩), .slice (some ⟨w1.heap.size, 0, none⟩) key.size (grownCap w1 key.size 0 5)] 49).free (by simp)
  have HI := Lib.hid hinv
  clear hs hinv
  go_enter Try.func15, Try.ntmps15
  go_wp2_with (go_at_call 27; refine (newBox_any _).mono ?_; rintro e w1 ⟨rfl, ⟨bk, hbk⟩, hb1⟩; have hI0 := Lib.hid (HI.out w1 bk hbk hb1))
  clear hsb kc
  go_loopg [4, 5] 40 (fun q v4 v5 wr => ∃ m : Nat, 4 ≤ m ∧ q + m = 44 ∧ v4 = .int .u8 (ks (byt key) (m - 4)).2 ∧ v5 = .int .i64 (m : Int) ∧ KsInv w (w1.heap.size + 1) w.heap.size bk wr (ks (byt key) (m - 4)).1)
  case atStart => exact ⟨4, by omega, by omega, rfl, rfl, hI0.out⟩
  case round =>
    clear hI0 HI hbk hb1
    obtain ⟨m, hm4, hm44, rfl, rfl, hI⟩ := hrel
    by_cases hlt : m < 44
    · obtain ⟨gk, cap, d1, d2, d3⟩ := hI.facts
      have hlen : (ks (byt key) (m - 4)).1.length = 4 * m := by rw [ks_length _ (by rw [byt_length]; exact HS.out)]; omega
      have h8 := ks_B8 (byt_B8 key) (m - 4)
      obtain ⟨L, hLd⟩ : ∃ L, L = (ks (byt key) (m - 4)).1 := ⟨_, rfl⟩
      obtain ⟨y, hyd⟩ : ∃ y, y = (ks (byt key) (m - 4)).2 := ⟨_, rfl⟩
      have HST : Hid (ks (byt key) (m + 1 - 4) = (ksIn L (ksW L y m) m 4, if m % 4 = 0 then gm y 2 else y)) := by
        rw [hLd, hyd]
        exact Lib.hid (ks_step (byt key) m hm4)
      rw [← hLd] at hI d1 d2 d3 hlen h8
      rw [← hyd]
      rw [hlen] at d1 d3
      have HL := Lib.hid hlen
      have x0 := d2.cell (u8s_at (xs := L) (i := 4 * m - 4) (by omega))
      have x1 := d2.cell (u8s_at (xs := L) (i := 4 * m - 4 + 1) (by omega))
      have x2 := d2.cell (u8s_at (xs := L) (i := 4 * m - 4 + 2) (by omega))
      have x3 := d2.cell (u8s_at (xs := L) (i := 4 * m - 4 + 3) (by omega))
      have b0 := h8 (4 * m - 4)
      have b1 := h8 (4 * m - 4 + 1)
      have b2 := h8 (4 * m - 4 + 2)
      have b3 := h8 (4 * m - 4 + 3)
      obtain ⟨a0, ha0⟩ : ∃ a, a = L.getD (4 * m - 4) 0 := ⟨_, rfl⟩
      obtain ⟨a1, ha1⟩ : ∃ a, a = L.getD (4 * m - 4 + 1) 0 := ⟨_, rfl⟩
      obtain ⟨a2, ha2⟩ : ∃ a, a = L.getD (4 * m - 4 + 2) 0 := ⟨_, rfl⟩
      obtain ⟨a3, ha3⟩ : ∃ a, a = L.getD (4 * m - 4 + 3) 0 := ⟨_, rfl⟩
      rw [← ha0] at x0 b0
      rw [← ha1] at x1 b1
      rw [← ha2] at x2 b2
      rw [← ha3] at x3 b3
      have hW : ksW L y m = if m % 4 = 0 then [bits .xor .u8 (sb a1) y, sb a2, sb a3, sb a0] else [a0, a1, a2, a3] := by
        rw [ha0, ha1, ha2, ha3]
        rfl
      have HW := Lib.hid hW
      obtain ⟨b00, b01⟩ := b0
      obtain ⟨b10, b11⟩ := b1
      obtain ⟨b20, b21⟩ := b2
      obtain ⟨b30, b31⟩ := b3
      have hap : ∀ w, (Instr.arrayAt 50 (.slice (some ⟨gk, 4 * m - 4, none⟩) (4 * m - (4 * m - 4)) (cap - (4 * m - 4)))).run Try.prog w = .ok (.pointer (some ⟨gk, 4 * m - 4, none⟩)) w := by
        intro w
        rw [show 4 * m - (4 * m - 4) = 4 by omega]
        kernel_rfl
      have hcl : (4 * m - 4 : Nat) ≤ cap := by omega
      obtain ⟨c0, hbox, hgl, hgbl⟩ := hI.more
      have z0 := box_cell hbox b00 b01
      have z1 := box_cell hbox b10 b11
      have z2 := box_cell hbox b20 b21
      have z3 := box_cell hbox b30 b31
      have l0 : a0 < 256 := by omega
      have l1 : a1 < 256 := by omega
      have l2 : a2 < 256 := by omega
      have l3 : a3 < 256 := by omega
      have hd : decide ((m : Int) < 44) = true := by simp; omega
      clear hLd hyd hlen h8 ha0 ha1 ha2 ha3 HS hW hbox
      go_upto_if 30 with fail
      go_cut [4, 6] from 14 to 103 (fun v4 v6 wx => ∃ (p0 p1 p2 p3 z : Int) (t : Nat), v4 = .int .u8 z ∧ v6 = .pointer (some ⟨t, 0, none⟩) ∧ Hid (z = if m % 4 = 0 then gm y 2 else y) ∧ Hid ([p0, p1, p2, p3] = ksW L y m) ∧ Row wx t [.int .u8 p0, .int .u8 p1, .int .u8 p2, .int .u8 p3] ∧ KsInv w (w1.heap.size + 1) w.heap.size bk wx L)
      case first =>
        by_cases hmod : m % 4 = 0
        · have hmi : ((m : Int) % 4 == 0) = true := by simp; omega
          have HG := Lib.hid hmod
          clear hmod
          go_wp2_with fail
          refine region_tail 43 (by kernel_rfl) (by kernel_rfl) ?_
          simp only [List.take_succ_cons, List.take_zero, List.drop_succ_cons, List.drop_zero]
          repeat still_step
          refine wpStill_nil ?_
          go_wp2_with (go_at_call 28; refine (mulGf_any _ _ _ (by decide) (by decide)).mono ?_; rintro e w' ⟨rfl, rfl⟩)
          go_meet
          exact ⟨_, _, _, _, _, _, rfl, rfl, Lib.hid (by rw [if_pos HG.out]), Lib.hid (by rw [HW.out, if_pos HG.out]), (Row.new wr _ _).drew, hI.below (((Below.refl _ _).alloc (Nat.le_refl _) _).drew)⟩
        · have hmi : ((m : Int) % 4 == 0) = false := by simp; omega
          have HG := Lib.hid hmod
          clear hmod
          go_wp2_with fail
          go_meet
          exact ⟨_, _, _, _, _, _, rfl, rfl, Lib.hid (by rw [if_neg HG.out]), Lib.hid (by rw [HW.out, if_neg HG.out]), Row.new wr _ _, hI.below ((Below.refl _ _).alloc (Nat.le_refl _) _)⟩
      case rest =>
        obtain ⟨p0, p1, p2, p3, z, t, rfl, rfl, HZ, HP, ht, hIc⟩ := hcut
        have t0 := ht.cell (i := 0) (v := .int .u8 p0) rfl
        have t1 := ht.cell (i := 1) (v := .int .u8 p1) rfl
        have t2 := ht.cell (i := 2) (v := .int .u8 p2) rfl
        have t3 := ht.cell (i := 3) (v := .int .u8 p3) rfl
        clear x0 x1 x2 x3 z0 z1 z2 z3 d1 d2 d3 hap c0 l0 l1 l2 l3 hcl hI HW hgl hgbl ht b00 b01 b10 b11 b20 b21 b30 b31
        go_wp2_with fail
        clear t0 t1 t2 t3

        go_loopg [77] 4 (fun q v wq => ∃ (k : Nat) (kI : Int), kI = k ∧ q + k = 4 ∧ v = .int .i64 kI ∧ KsInv w (w1.heap.size + 1) w.heap.size bk wq (ksIn L [p0, p1, p2, p3] m k))
        case atStart => exact ⟨0, 0, rfl, by omega, rfl, hIc⟩
        case round =>
          clear hIc
          obtain ⟨k, kI, hkI, hk4, rfl, hI⟩ := hrel
          by_cases hk : k < 4
          · have hd4 : decide (kI < 4) = true := by simp; omega
            go_upto_region 12 with fail
            go_cut [7, 8, 77] from 77 to 103 (fun v7 v8 v77 wx => ∃ x : Int, v7 = .int .i64 kI ∧ v8 = .int .u8 x ∧ v77 = .int .i64 kI ∧ Hid (x = [p0, p1, p2, p3].getD k 0) ∧ KsInv w (w1.heap.size + 1) w.heap.size bk wx (ksIn L [p0, p1, p2, p3] m k))
            case first =>
              rcases (show k = 0 ∨ k = 1 ∨ k = 2 ∨ k = 3 by omega) with rfl | rfl | rfl | rfl
              · obtain rfl : kI = 0 := by omega
                clear hkI hk4
                have i0 : ∀ w, (Instr.index 50 (.agg #[.int .u8 p0, .int .u8 p1, .int .u8 p2, .int .u8 p3]) (.int .i64 0)).run Try.prog w = .ok (.int .u8 p0) w := fun _ => by kernel_rfl
                go_wp2_with fail
                go_meet
                exact ⟨p0, rfl, rfl, rfl, Lib.hid rfl, hI⟩
              · obtain rfl : kI = 1 := by omega
                clear hkI hk4
                have i0 : ∀ w, (Instr.index 50 (.agg #[.int .u8 p0, .int .u8 p1, .int .u8 p2, .int .u8 p3]) (.int .i64 1)).run Try.prog w = .ok (.int .u8 p1) w := fun _ => by kernel_rfl
                go_wp2_with fail
                go_meet
                exact ⟨p1, rfl, rfl, rfl, Lib.hid rfl, hI⟩
              · obtain rfl : kI = 2 := by omega
                clear hkI hk4
                have i0 : ∀ w, (Instr.index 50 (.agg #[.int .u8 p0, .int .u8 p1, .int .u8 p2, .int .u8 p3]) (.int .i64 2)).run Try.prog w = .ok (.int .u8 p2) w := fun _ => by kernel_rfl
                go_wp2_with fail
                go_meet
                exact ⟨p2, rfl, rfl, rfl, Lib.hid rfl, hI⟩
              · obtain rfl : kI = 3 := by omega
                clear hkI hk4
                have i0 : ∀ w, (Instr.index 50 (.agg #[.int .u8 p0, .int .u8 p1, .int .u8 p2, .int .u8 p3]) (.int .i64 3)).run Try.prog w = .ok (.int .u8 p3) w := fun _ => by kernel_rfl
                go_wp2_with fail
                go_meet
                exact ⟨p3, rfl, rfl, rfl, Lib.hid rfl, hI⟩
            case rest =>
              subst hkI
              obtain ⟨x, rfl, rfl, rfl, HX, hIx⟩ := hcut
              clear hI hd4
              go_wp2_with fail
              obtain ⟨gk, cap, d1, d2, d3⟩ := hIx.facts
              obtain ⟨c0, -, hgl, hgbl⟩ := hIx.more
              have hll : (ksIn L [p0, p1, p2, p3] m k).length = 4 * m + k := by rw [ksIn_length, HL.out]
              have e0 := d1
              rw [hll] at d1 d3
              have d4 := d2.cell (u8s_at (xs := ksIn L [p0, p1, p2, p3] m k) (i := 4 * m - 16 + k) (by omega))
              obtain ⟨b, hb⟩ : ∃ b, b = (ksIn L [p0, p1, p2, p3] m k).getD (4 * m - 16 + k) 0 := ⟨_, rfl⟩
              rw [← hb] at d4
              have d5 : wc.cell? ⟨gk, (4 * (m : Int) - 16 + (k : Int)).toNat, none⟩ = some (.int .u8 b) := by
                rw [show (4 * (m : Int) - 16 + (k : Int)).toNat = 4 * m - 16 + k by omega]
                exact d4
              obtain ⟨q, c2, w2, s1, s2, s3, s5⟩ := hIx.step e0 (bits .xor .u8 b x) (by omega)
              have e : ksIn L [p0, p1, p2, p3] m k ++ [bits .xor .u8 b x] = ksIn L [p0, p1, p2, p3] m (k + 1) := by
                rw [ksIn, hb, HX.out]
              rw [e] at s5
              rw [hll] at s1 s2 s5
              have S5 := Lib.hid s5
              have S1 := Lib.hid s1
              have q1 : IntKind.i64.wrap (4 * (m : Int)) = 4 * (m : Int) := by rw [IntKind.wrap_i64]; omega
              have q2 : IntKind.i64.wrap (4 * (m : Int) - 16) = 4 * (m : Int) - 16 := by rw [IntKind.wrap_i64]; omega
              have q3 : IntKind.i64.wrap (4 * (m : Int) - 16 + (k : Int)) = 4 * (m : Int) - 16 + (k : Int) := by rw [IntKind.wrap_i64]; omega
              have q4 : 0 ≤ 4 * (m : Int) - 16 + (k : Int) := by omega
              have q7 : 4 * (m : Int) - 16 < 4 * (m : Int) := by omega
              have q8 : 16 ≤ 4 * (m : Int) := by omega
              have q9 : 4 * (m : Int) - 16 + (k : Int) < 4 * (m : Int) + (k : Int) := by omega
              clear s5 s1 hb e hll e0 hIx d3 d2
              go_region_law (refine step_append_run rfl (.tmp 85) (.tmp 99) 32 32 rfl rfl rfl rfl S1.out ?_)
              clear q1 q2 q3 q4 q7 q8 q9
              all_goals
                go_wp2_with fail
                go_roundg (3 - k)
                case measure => omega
                case rel => exact ⟨k + 1, (k : Int) + 1, by omega, by omega, rfl, S5.out⟩
          · obtain rfl : k = 4 := by omega
            obtain rfl : kI = 4 := by omega
            clear hkI hk4
            go_wp2_with fail
            go_roundg (43 - m)
            case measure => omega
            case rel => exact ⟨m + 1, by omega, by omega, by rw [HST.out, HZ.out], by go_num, by rw [HST.out, ← HP.out]; exact hI⟩
    · obtain rfl : m = 44 := by omega
      obtain ⟨gk, cap, c1, ho, c0, hf, hr, n1, n2, n3, n4, hB⟩ := hI
      have hlen : (ks (byt key) 40).1.length = 176 := ks_length _ (by rw [byt_length]; exact HS.out) 40
      have HC : Hid (CipherAt wr (w1.heap.size + 1) w.heap.size gk cap (ks (byt key) 40).1 ∧ Below w.heap.size w wr) := by
        refine Lib.hid ⟨⟨c0, ?_, ⟨bk, hr⟩, ?_, hlen⟩, hB⟩
        · have := c1
          rw [show 44 - 4 = 40 from rfl, hlen] at this
          exact this
        · obtain ⟨g', cap', e, _, hr'⟩ := ho.row
          simp at e
          obtain ⟨rfl, _⟩ := e
          exact hr'
      clear c1 ho c0 hf hr hB hlen
      go_wp2_with fail
      go_ret
      exact ⟨_, _, gk, cap, rfl, HC.out.1, HC.out.2⟩
end Go.Proofs.Ytefhhhdcgonmgaa.Hb
