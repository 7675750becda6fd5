import Derived.Test.YtefhhhdcgonmgaaHbLow
import Derived.Test.YtefhhhdcgonmgaaHbMix
namespace Go.Proofs.Ytefhhhdcgonmgaa.Hb
open Go.RowKit
set_option linter.unusedVariables false

/-- A cipher that is ready: its table, its keys. -/
def CipherAt (w : World) (g gb gk cap : Nat) (K : List Int) : Prop :=
  w.cell? ⟨g, 0, none⟩ = some (.pointer (some ⟨gb, 0, none⟩)) ∧ w.cell? ⟨g, 1, none⟩ = some (.slice (some ⟨gk, 0, none⟩) 176 cap) ∧
  (∃ bk, Row w gb (u8s (boxTo 256 ++ bk))) ∧ Row w gk (u8s K) ∧ K.length = 176
theorem CipherAt.kb {w w' : World} {g gb gk cap b B : Nat} {K : List Int} (h : CipherAt w g gb gk cap K) (hb : KB B b w w') (hB : w.heap.size ≤ B) (h1 : g ≠ b) (h2 : gb ≠ b) (h3 : gk ≠ b) : CipherAt w' g gb gk cap K := by
  obtain ⟨c0, c1, ⟨bk, r1⟩, r2, hl⟩ := h
  have l0 : g < w.heap.size := World.block_lt_of_cell? w _ c0
  exact ⟨cell_kb c0 hb (by show g < B; omega) h1, cell_kb c1 hb (by show g < B; omega) h1, ⟨bk, r1.kb hb (by have := r1.lt; omega) h2⟩, r2.kb hb (by have := r2.lt; omega) h3, hl⟩
theorem CipherAt.below {w w' : World} {g gb gk cap : Nat} {K : List Int} (h : CipherAt w g gb gk cap K) (hb : Below w.heap.size w w') : CipherAt w' g gb gk cap K := by
  obtain ⟨c0, c1, ⟨bk, r1⟩, r2, hl⟩ := h
  have l0 : g < w.heap.size := World.block_lt_of_cell? w _ c0
  exact ⟨cell_below c0 hb l0, cell_below c1 hb l0, ⟨bk, r1.below hb⟩, r2.below hb, hl⟩
theorem CipherAt.lt {w : World} {g gb gk cap : Nat} {K : List Int} (h : CipherAt w g gb gk cap K) : g < w.heap.size ∧ gb < w.heap.size ∧ gk < w.heap.size :=
  ⟨World.block_lt_of_cell? w _ h.1, h.2.2.1.choose_spec.lt, h.2.2.2.1.lt⟩

def addK (K : List Int) (r : Nat) (xs : List Int) : Nat → List Int
  | 0 => xs
  | k + 1 => (addK K r xs k).set k (bits .xor .u8 ((addK K r xs k).getD k 0) (K.getD (16 * r + k) 0))
theorem addK_length (K : List Int) (r : Nat) (xs : List Int) (k : Nat) : (addK K r xs k).length = xs.length := by
  induction k with
  | zero => rfl
  | succ k ih => rw [addK, List.length_set, ih]

set_option maxRecDepth 100000 in
set_option maxHeartbeats 400000 in
theorem addKey_any (w : World) (g gb gk cap b cb r : Nat) (rI : Int) (hrI : rI = r) (K xs : List Int) (hC : CipherAt w g gb gk cap K) (hx : Row w b (u8s xs)) (hl : xs.length = 16) (hr : r ≤ 10) (h1 : g ≠ b) (h2 : gb ≠ b) (h3 : gk ≠ b) :
    Calls Try.prog 46 #[.pointer (some ⟨g, 0, none⟩), .slice (some ⟨b, 0, none⟩) 16 cb, .int .i64 rI] w fun e w' => e = .returned (.tuple #[]) ∧ Row w' b (u8s (addK K r xs 16)) ∧ KB w.heap.size b w w' := by
  subst hrI
  have HL := Lib.hid hl
  have hbs := hx.lt
  clear hl
  go_enter Try.func46, Try.ntmps46
  go_wp2
  go_loopw [9] (fun v wr => ∃ k : Nat, k ≤ 16 ∧ v = .int .i64 k ∧ Row wr b (u8s (addK K r xs k)) ∧ KB w.heap.size b w wr) (fun v _ => 16 - (intOf v).toNat)
  case atStart => exact ⟨0, by omega, rfl, hx, KB.refl _ _ _⟩
  case round =>
    obtain ⟨k, hk, rfl, hxr, hbl⟩ := hrel
    by_cases hlt : k < 16
    · obtain ⟨c0, c1, -, r2, hK⟩ := hC.kb hbl (Nat.le_refl _) h1 h2 h3
      have d1 := hxr.cell (u8s_at (xs := addK K r xs k) (i := k) (by rw [addK_length, HL.out]; omega))
      have d2 := hxr.free (i := k) (by rw [u8s_length, addK_length, HL.out]; omega)
      have d3 := r2.cell (u8s_at (xs := K) (i := 16 * r + k) (by omega))
      clear hC c0 hK
      obtain ⟨x, hx1⟩ : ∃ x, x = (addK K r xs k).getD k 0 := ⟨_, rfl⟩
      obtain ⟨y, hy1⟩ : ∃ y, y = K.getD (16 * r + k) 0 := ⟨_, rfl⟩
      rw [← hx1] at d1
      rw [← hy1] at d3
      have e : (addK K r xs k).set k (bits .xor .u8 x y) = addK K r xs (k + 1) := by rw [addK, hx1, hy1]
      have E := Lib.hid e
      clear hx1 hy1 e
      have hidx : (16 * (r : Int) + (k : Int)).toNat = 16 * r + k := by omega
      go_wp2
      go_region
      go_wp2
      go_roundw
      case rel =>
        refine ⟨k + 1, by omega, by go_num, ?_, (hbl.set (.inl rfl) _).drew⟩
        have h2 := hxr.set (i := k) (by rw [u8s_length, addK_length, HL.out]; omega) (.int .u8 (bits .xor .u8 x y))
        rw [u8s_set, E.out] at h2
        exact h2.drew
      case measure => simp [intOf]; omega
    · obtain rfl : k = 16 := by omega
      go_wp2
      go_end0
      exact ⟨rfl, hxr, hbl⟩

def shAt (i : Nat) : Nat := 4 * ((i / 4 + i) % 4) + i % 4
def shTo (xs : List Int) : Nat → List Int
  | 0 => xs
  | k + 1 => (shTo xs k).set k (xs.getD (shAt k) 0)
theorem shTo_length (xs : List Int) (k : Nat) : (shTo xs k).length = xs.length := by
  induction k with
  | zero => rfl
  | succ k ih => rw [shTo, List.length_set, ih]
theorem shAt_lt (k : Nat) : shAt k < 16 := by unfold shAt; omega

set_option maxRecDepth 100000 in
set_option maxHeartbeats 1000000 in
theorem shift_any (w : World) (b cb : Nat) (xs : List Int) (hx : Row w b (u8s xs)) (hl : xs.length = 16) :
    Calls Try.prog 47 #[.slice (some ⟨b, 0, none⟩) 16 cb, .int .i64 1] w fun e w' => e = .returned (.tuple #[]) ∧ Row w' b (u8s (shTo xs 16)) ∧ KB w.heap.size b w w' := by
  match xs, hl with
  | [x0, x1, x2, x3, x4, x5, x6, x7, x8, x9, x10, x11, x12, x13, x14, x15], _ =>
    obtain ⟨X, hX⟩ : ∃ X, X = [x0, x1, x2, x3, x4, x5, x6, x7, x8, x9, x10, x11, x12, x13, x14, x15] := ⟨_, rfl⟩
    have hXl : X.length = 16 := by rw [hX]; rfl
    have HL := Lib.hid hXl
    have hbs := hx.lt
    rw [← hX] at hx
    have c := fun (j : Nat) (v : Value) (h : (u8s X)[j]? = some v) => hx.cell h
    have c0 := c 0 (.int .u8 x0) (by rw [hX]; rfl)
    have c1 := c 1 (.int .u8 x1) (by rw [hX]; rfl)
    have c2 := c 2 (.int .u8 x2) (by rw [hX]; rfl)
    have c3 := c 3 (.int .u8 x3) (by rw [hX]; rfl)
    have c4 := c 4 (.int .u8 x4) (by rw [hX]; rfl)
    have c5 := c 5 (.int .u8 x5) (by rw [hX]; rfl)
    have c6 := c 6 (.int .u8 x6) (by rw [hX]; rfl)
    have c7 := c 7 (.int .u8 x7) (by rw [hX]; rfl)
    have c8 := c 8 (.int .u8 x8) (by rw [hX]; rfl)
    have c9 := c 9 (.int .u8 x9) (by rw [hX]; rfl)
    have c10 := c 10 (.int .u8 x10) (by rw [hX]; rfl)
    have c11 := c 11 (.int .u8 x11) (by rw [hX]; rfl)
    have c12 := c 12 (.int .u8 x12) (by rw [hX]; rfl)
    have c13 := c 13 (.int .u8 x13) (by rw [hX]; rfl)
    have c14 := c 14 (.int .u8 x14) (by rw [hX]; rfl)
    have c15 := c 15 (.int .u8 x15) (by rw [hX]; rfl)
    have hn : Row (w.alloc (.cells #[.int .u8 x0, .int .u8 x1, .int .u8 x2, .int .u8 x3, .int .u8 x4, .int .u8 x5, .int .u8 x6, .int .u8 x7, .int .u8 x8, .int .u8 x9, .int .u8 x10, .int .u8 x11, .int .u8 x12, .int .u8 x13, .int .u8 x14, .int .u8 x15] 78)) w.heap.size (u8s X) := by
      rw [hX]
      exact Row.new w _ _
    have hx' := hx.alloc (.cells #[.int .u8 x0, .int .u8 x1, .int .u8 x2, .int .u8 x3, .int .u8 x4, .int .u8 x5, .int .u8 x6, .int .u8 x7, .int .u8 x8, .int .u8 x9, .int .u8 x10, .int .u8 x11, .int .u8 x12, .int .u8 x13, .int .u8 x14, .int .u8 x15] 78)
    have HN := Lib.hid (And.intro hn hx')
    rw [← hX]
    clear hn hx' hx c hX hXl
    have hap : ∀ w, (Instr.arrayAt 78 (.slice (some ⟨b, 0, none⟩) 16 cb)).run Try.prog w = .ok (.pointer (some ⟨b, 0, none⟩)) w := fun _ => by kernel_rfl
    go_enter Try.func47, Try.ntmps47
    go_wp2
    clear c0 c1 c2 c3 c4 c5 c6 c7 c8 c9 c10 c11 c12 c13 c14 c15
    go_loopw [11] (fun v wr => ∃ k : Nat, k ≤ 16 ∧ v = .int .i64 k ∧ Row wr b (u8s (shTo X k)) ∧ Row wr w.heap.size (u8s X) ∧ KB w.heap.size b w wr) (fun v _ => 16 - (intOf v).toNat)
    case atStart => exact ⟨0, by omega, rfl, HN.out.2, HN.out.1, (KB.refl _ _ _).alloc (Nat.le_refl _) _⟩
    case round =>
      clear HN
      obtain ⟨k, hk, rfl, hxr, hor, hbl⟩ := hrel
      by_cases hlt : k < 16
      · have hsk := shAt_lt k
        have d1 := hxr.cell (u8s_at (xs := shTo X k) (i := k) (by rw [shTo_length, HL.out]; omega))
        have d2 := hxr.free (i := k) (by rw [u8s_length, shTo_length, HL.out]; omega)
        have d3 := hor.cell (u8s_at (xs := X) (i := shAt k) (by rw [HL.out]; omega))
        obtain ⟨y, hy1⟩ : ∃ y, y = X.getD (shAt k) 0 := ⟨_, rfl⟩
        rw [← hy1] at d3
        have e : (shTo X k).set k y = shTo X (k + 1) := by rw [shTo, hy1]
        have E := Lib.hid e
        unfold shAt at d3
        clear hy1 e hsk
        go_wp2
        go_roundw
        case rel =>
          refine ⟨k + 1, by omega, by go_num, ?_, hor.other (by simp; omega) _, hbl.set (.inl rfl) _⟩
          have h2 := hxr.set (i := k) (by rw [u8s_length, shTo_length, HL.out]; omega) (.int .u8 y)
          rw [u8s_set, E.out] at h2
          exact h2
        case measure => simp [intOf]; omega
      · obtain rfl : k = 16 := by omega
        go_wp2
        go_end0
        exact ⟨rfl, hxr, hbl⟩
end Go.Proofs.Ytefhhhdcgonmgaa.Hb
