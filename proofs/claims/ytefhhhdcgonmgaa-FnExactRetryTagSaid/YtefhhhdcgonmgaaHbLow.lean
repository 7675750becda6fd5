import Derived.WalkKit
import Derived.WalkSpells
import Derived.WalkLawsBesides
import Derived.Laws.BytesArg
import Derived.Lib.ConvBytes
import Derived.Lib.Hide
import Derived.Laws.IdiomCopy
import Derived.StillTailTactics
import Derived.Test.YtefhhhdcgonmgaaProg
import Derived.ArgAppend
import Derived.Deep.RegionLaw
import Derived.Deep.LoopGhost
import Derived.RegionTactic
import Derived.BigRegion
import Derived.Laws.BitsLemmas
import Derived.Lib.Strings
/-! A block's first cells, none of them frozen. -/
namespace Go.Proofs.Ytefhhhdcgonmgaa.Hb
open Go.RowKit
set_option linter.unusedVariables false

theorem ret_int {k : IntKind} {a b : Int} (h : a = b) : Ending.returned (.int k a) = .returned (.int k b) := by rw [h]
theorem ret_str {a b : ByteArray} (h : a = b) : Ending.returned (.string a) = .returned (.string b) := by rw [h]
def Row (w : World) (g : Nat) (xs : List Value) : Prop :=
  ∃ cur T m, w.heap[g]? = some (.cells cur T m) ∧ xs.length ≤ cur.size ∧ (∀ i, i < xs.length → cur[i]? = xs[i]?) ∧ (∀ i, i < xs.length → ¬ (m.1 ≤ i ∧ i < m.2))

theorem Row.lt {w : World} {g : Nat} {xs : List Value} (h : Row w g xs) : g < w.heap.size := by
  obtain ⟨cur, T, m, hb, _⟩ := h
  exact (Array.getElem?_eq_some_iff.1 hb).1

theorem Row.cell {w : World} {g : Nat} {xs : List Value} (h : Row w g xs) {i : Nat} {v : Value} (hv : xs[i]? = some v) : w.cell? ⟨g, i, none⟩ = some v := by
  obtain ⟨cur, T, m, hb, hl, hc, _⟩ := h
  have hi : i < xs.length := by
    rcases Nat.lt_or_ge i xs.length with h | h
    · exact h
    · simp [List.getElem?_eq_none h] at hv
  simp [World.cell?, hb, hc i hi, hv]

theorem Row.free {w : World} {g : Nat} {xs : List Value} (h : Row w g xs) {i : Nat} (hi : i < xs.length) : w.frozen? ⟨g, i, none⟩ = false := by
  obtain ⟨cur, T, m, hb, _, _, hf⟩ := h
  have := hf i hi
  simp [World.frozen?, hb]
  omega

theorem Row.same {w w' : World} {g : Nat} {xs : List Value} (h : Row w g xs) (hb : w'.heap[g]? = w.heap[g]?) : Row w' g xs := by
  obtain ⟨cur, T, m, h1, h2⟩ := h
  exact ⟨cur, T, m, hb.trans h1, h2⟩

theorem Row.below {w w' : World} {g : Nat} {xs : List Value} (h : Row w g xs) (hb : Below w.heap.size w w') : Row w' g xs := h.same (hb.block g h.lt)

theorem Row.other {w : World} {g : Nat} {xs : List Value} (h : Row w g xs) {a : Addr} (hne : g ≠ a.block) (v : Value) : Row (w.setCell a v) g xs :=
  h.same (Below.heap_setCell w a v g hne)

theorem Row.alloc {w : World} {g : Nat} {xs : List Value} (h : Row w g xs) (o : Obj) : Row (w.alloc o) g xs := h.below ((Below.refl _ _).alloc (Nat.le_refl _) o)
theorem Row.drew {w : World} {g : Nat} {xs : List Value} (h : Row w g xs) : Row w.drew g xs := h

theorem Row.set {w : World} {g : Nat} {xs : List Value} (h : Row w g xs) {i : Nat} (hi : i < xs.length) (v : Value) : Row (w.setCell ⟨g, i, none⟩ v) g (xs.set i v) := by
  obtain ⟨cur, T, m, hb, hl, hc, hf⟩ := h
  refine ⟨cur.set! i v, T, m, ?_, by simpa using hl, ?_, by simpa using hf⟩
  · simp [World.setCell, Array.getElem?_modify, hb]
  · intro j hj
    simp only [List.length_set] at hj
    rw [List.getElem?_set, Array.set!_eq_setIfInBounds, Array.getElem?_setIfInBounds]
    by_cases e : i = j
    · subst e
      simp [hi, show i < cur.size by omega]
    · simp [e, hc j hj]

theorem Row.take {w : World} {g : Nat} {xs : List Value} (h : Row w g xs) (n : Nat) : Row w g (xs.take n) := by
  obtain ⟨cur, T, m, hb, hl, hc, hf⟩ := h
  refine ⟨cur, T, m, hb, by simp; omega, ?_, ?_⟩
  · intro i hi
    simp at hi
    rw [hc i (by omega), List.getElem?_take]
    rw [if_pos (by omega)]
  · intro i hi
    simp at hi
    exact hf i (by omega)

theorem Row.new (w : World) (cells : Array Value) (T : TypeId) : Row (w.alloc (.cells cells T)) w.heap.size cells.toList := by
  refine ⟨cells, T, (0, 0), ?_, by simp, by simp, ?_⟩
  · show (w.heap.push _)[w.heap.size]? = _
    simp
  · intro i _
    simp
def u8s (xs : List Int) : List Value := xs.map fun x => .int .u8 x
@[simp] theorem u8s_length (xs : List Int) : (u8s xs).length = xs.length := by simp [u8s]
theorem u8s_at {xs : List Int} {i : Nat} (h : i < xs.length) : (u8s xs)[i]? = some (.int .u8 (xs.getD i 0)) := by simp [u8s, h, List.getD_eq_getElem?_getD]
theorem u8s_set (xs : List Int) (i : Nat) (v : Int) : (u8s xs).set i (.int .u8 v) = u8s (xs.set i v) := by simp [u8s, List.map_set]

def byt (s : ByteArray) : List Int := s.data.toList.map fun b => (b.toNat : Int)
@[simp] theorem byt_length (s : ByteArray) : (byt s).length = s.size := by simp [byt]

/-- What a conversion from a string makes. -/
theorem Row.bytes (w : World) (e : TypeId) (s : ByteArray) : Row (Lib.bytesWorld w e s) w.heap.size (u8s (byt s)) := by
  refine ⟨_, _, _, Lib.bytesWorld_at_new w e s, by simp [Lib.bytesCells], ?_, ?_⟩
  · intro i hi
    simp only [u8s_length, byt_length] at hi
    have hi' : i < s.data.size := by simpa using hi
    rw [Lib.bytesCells, Array.getElem?_append, if_pos (by simpa using hi')]
    simp [u8s, byt, hi]
  · intro i hi
    simp only [u8s_length, byt_length] at hi
    have h2 : (Lib.bytesCells w e s).size = s.size + (grownCap w s.size 0 e - s.size) := by simp [Lib.bytesCells]
    rw [h2]
    dsimp only
    omega
/-- A row's bytes as a string. -/
theorem Row.conv {P : Program} {src dst e : TypeId} (hs : P.underlying src = some (.slice e)) (he : P.underlying e = some (.int .u8)) (hd : P.underlying dst = some .string)
    {w : World} {g n : Nat} {xs : List Int} (h : Row w g (u8s xs)) (hn : xs.length = n) (c : Nat) : (convert src dst (.slice (some ⟨g, 0, none⟩) n c)).run P w = .ok (.string (strOfNums xs)) w := by
  refine run_convert_bytes_arg w src e hs he g 0 n c xs hn (fun i hi => ?_) dst hd
  rw [Nat.zero_add]
  exact h.cell (u8s_at (by omega))
theorem below_bytes {B : Nat} {w W : World} (h : Below B w W) (hB : B ≤ W.heap.size) (e : TypeId) (s : ByteArray) : Below B w (Lib.bytesWorld W e s) :=
  h.trans ⟨rfl, rfl, rfl, by rw [Lib.bytesWorld_size]; omega, fun i hi => Lib.bytesWorld_at_old W e s i (by omega)⟩


/-- Below block number B the world is as it was, but for block g. -/
structure KB (B g : Nat) (w w' : World) : Prop where
  os : w'.os = w.os
  tape : w'.tape = w.tape
  output : w'.output = w.output
  size : w.heap.size ≤ w'.heap.size
  block : ∀ k, k < B → k ≠ g → w'.heap[k]? = w.heap[k]?
theorem KB.refl (B g : Nat) (w : World) : KB B g w w := ⟨rfl, rfl, rfl, Nat.le_refl _, fun _ _ _ => rfl⟩
theorem KB.of_below {B g : Nat} {w w' : World} (h : Below B w w') : KB B g w w' := ⟨h.os, h.tape, h.output, h.size, fun k hk _ => h.block k hk⟩
theorem KB.trans {B g : Nat} {a b c : World} (h : KB B g a b) (k : KB B g b c) : KB B g a c :=
  ⟨k.os.trans h.os, k.tape.trans h.tape, k.output.trans h.output, Nat.le_trans h.size k.size, fun i hi hn => (k.block i hi hn).trans (h.block i hi hn)⟩
theorem KB.mono {B B' g : Nat} {w w' : World} (h : KB B g w w') (hB : B' ≤ B) : KB B' g w w' := ⟨h.os, h.tape, h.output, h.size, fun k hk hn => h.block k (Nat.lt_of_lt_of_le hk hB) hn⟩
theorem KB.alloc {B g : Nat} {a w : World} (h : KB B g a w) (hB : B ≤ w.heap.size) (o : Obj) : KB B g a (w.alloc o) := h.trans (.of_below ((Below.refl B w).alloc hB o))
theorem KB.drew {B g : Nat} {a w : World} (h : KB B g a w) : KB B g a w.drew := ⟨h.os, h.tape, h.output, h.size, h.block⟩
theorem KB.set {B g : Nat} {a w : World} (h : KB B g a w) {p : Addr} (hp : p.block = g ∨ B ≤ p.block) (v : Value) : KB B g a (w.setCell p v) :=
  ⟨h.os, h.tape, h.output, by simpa using h.size, fun k hk hn => by
    rw [Below.heap_setCell w p v k (by omega)]
    exact h.block k hk hn⟩
/-- What is written is new since B. -/
theorem KB.below {B g : Nat} {w w' : World} (h : KB B g w w') {B' : Nat} (hB : B' ≤ B) (hg : B' ≤ g) : Below B' w w' :=
  ⟨h.os, h.tape, h.output, h.size, fun k hk => h.block k (by omega) (by omega)⟩
theorem Row.kb {w w' : World} {g q B : Nat} {xs : List Value} (h : Row w q xs) (hb : KB B g w w') (hq : q < B) (hn : q ≠ g) : Row w' q xs := h.same (hb.block q hq hn)
theorem cell_below {w w' : World} {a : Addr} {v : Value} {B : Nat} (hc : w.cell? a = some v) (hb : Below B w w') (h : a.block < B) : w'.cell? a = some v := (hb.cell h).trans hc
theorem cell_kb {w w' : World} {a : Addr} {v : Value} {B g : Nat} (hc : w.cell? a = some v) (hb : KB B g w w') (h : a.block < B) (hn : a.block ≠ g) : w'.cell? a = some v := by
  have := hb.block a.block h hn
  simpa [World.cell?, this] using hc

/-- Elements stored one behind the other. -/
def setL {α : Type} : List α → Nat → List α → List α
  | xs, _, [] => xs
  | xs, o, v :: r => setL (xs.set o v) (o + 1) r
theorem setL_length {α : Type} : ∀ (cs xs : List α) (o : Nat), (setL xs o cs).length = xs.length
  | [], _, _ => rfl
  | v :: r, xs, o => by rw [setL, setL_length r, List.length_set]
theorem u8s_setL : ∀ (cs xs : List Int) (o : Nat), setL (u8s xs) o (u8s cs) = u8s (setL xs o cs)
  | [], _, _ => rfl
  | v :: r, xs, o => by
    show setL ((u8s xs).set o (.int .u8 v)) (o + 1) (u8s r) = u8s (setL (xs.set o v) (o + 1) r)
    rw [u8s_set, u8s_setL r]
theorem Row.setCells {g : Nat} : ∀ (cs xs : List Value) (o : Nat) (w : World), Row w g xs → o + cs.length ≤ xs.length → Row (w.setCells g o cs) g (setL xs o cs)
  | [], _, _, _, h, _ => h
  | v :: r, xs, o, w, h, hl => by
    simp only [List.length_cons] at hl
    exact Row.setCells r _ (o + 1) _ (h.set (by omega) v) (by rw [List.length_set]; omega)
theorem KB.setCells {B g : Nat} {a : World} : ∀ (cs : List Value) (o : Nat) (w : World), KB B g a w → KB B g a (w.setCells g o cs)
  | [], _, _, h => h
  | v :: r, o, w, h => KB.setCells r (o + 1) _ (h.set (.inl rfl) v)
theorem Row.cells_some {w : World} {g : Nat} {xs : List Value} (h : Row w g xs) {i : Nat} (hi : i < xs.length) : (w.cell? ⟨g, i, none⟩).isSome = true := by
  rw [h.cell (v := xs[i]) (by simp [hi])]
  rfl
theorem u8s_one (xs : List Int) : ∀ v ∈ u8s xs, v.oneCell' = true := by
  intro v hv
  obtain ⟨x, _, rfl⟩ := List.mem_map.1 hv
  rfl
theorem add_none (g o j : Nat) : (⟨g, o, none⟩ : Addr).add j = ⟨g, o + j, none⟩ := by unfold Addr.add; split <;> simp_all

/-- A region that draws its order: first what only reads, then a tail; the world behind the draw under its name. -/
theorem region_tail {P : Program} {id : Nat} {Q : Exit → Act → World → Prop} {a : Act} {w : World} {l : List Oper} (n : Nat) (hm : P.follows .mixedOrders = true) (hB : Region.lexTailB .any l.toArray n = true)
    (h : wpStill P l.toArray w.drew (fun a' => wpList P l.toArray Q (l.drop n) a' w.drew) (l.take n) a) : (Code.region id l.toArray true).wp P Q a w :=
  wp_region_still_tail n hm hB h
end Go.Proofs.Ytefhhhdcgonmgaa.Hb
/-! The bytes' field, SubByte: what the program computes, as plain functions of numbers. -/
namespace Go.Proofs.Ytefhhhdcgonmgaa.Hb
open Go.RowKit
set_option linter.unusedVariables false

/-- A byte times two. -/
def xt (a : Int) : Int := if bits .and .u8 a 128 = 0 then (a * 2) % 256 else bits .xor .u8 ((a * 2) % 256) 27
def gmN : Nat → Int → Int → Int → Int
  | 0, _, _, o => o
  | n + 1, a, b, o => if b = 0 then o else gmN n (xt a) (b / 2) (if bits .and .u8 b 1 = 1 then bits .xor .u8 o a else o)
def gm (a b : Int) : Int := gmN 8 a b 0
theorem gmN_zero (n : Nat) (a o : Int) : gmN n a 0 o = o := by cases n <;> simp [gmN]
theorem gmN_step (n : Nat) (a b o : Int) (hb : b ≠ 0) : gmN (n + 1) a b o = gmN n (xt a) (b / 2) (if bits .and .u8 b 1 = 1 then bits .xor .u8 o a else o) := by simp [gmN, hb]

def gpow (a : Int) : Nat → Int
  | 0 => 1
  | n + 1 => gm (gpow a n) a
def ginv (a : Int) : Int := gpow a 254
theorem ginv_def (a : Int) : gpow a 254 = ginv a := rfl
def rotl8 (x : Int) (k : Int) : Int := bits .or .u8 (x * 2 ^ k.toNat % 256) (x / 2 ^ (8 - k).toNat)
def sbN (c : Int) : Nat → Int
  | 0 => bits .xor .u8 c 99
  | n + 1 => bits .xor .u8 (sbN c n) (rotl8 c (n + 1))
def sb (b : Int) : Int := sbN (ginv b) 4

theorem bits_u8 (op : BinOp) (a b : Int) : 0 ≤ bits op .u8 a b ∧ bits op .u8 a b ≤ 255 := by
  unfold bits
  simp only [IntKind.wrap_u8]
  omega
theorem gmN_range (n : Nat) : ∀ a b o, 0 ≤ o → o ≤ 255 → 0 ≤ gmN n a b o ∧ gmN n a b o ≤ 255 := by
  induction n with
  | zero => intro a b o h0 h1; exact ⟨h0, h1⟩
  | succ n ih =>
    intro a b o h0 h1
    simp only [gmN]
    split
    · exact ⟨h0, h1⟩
    · split
      · exact ih _ _ _ (bits_u8 _ _ _).1 (bits_u8 _ _ _).2
      · exact ih _ _ _ h0 h1
theorem gm_range (a b : Int) : 0 ≤ gm a b ∧ gm a b ≤ 255 := gmN_range 8 a b 0 (by decide) (by decide)
theorem gpow_range (a : Int) (n : Nat) : 0 ≤ gpow a n ∧ gpow a n ≤ 255 := by
  cases n with
  | zero => exact ⟨by simp [gpow], by simp [gpow]⟩
  | succ n => exact gm_range _ _
theorem sbN_range (c : Int) (n : Nat) : 0 ≤ sbN c n ∧ sbN c n ≤ 255 := by cases n <;> exact bits_u8 _ _ _
theorem sb_range (b : Int) : 0 ≤ sb b ∧ sb b ≤ 255 := sbN_range _ _
theorem xt_range (a : Int) : 0 ≤ xt a ∧ xt a ≤ 255 := by
  unfold xt
  split
  · omega
  · exact bits_u8 _ _ _
end Go.Proofs.Ytefhhhdcgonmgaa.Hb
/-! A slice of the call's own, at the head of its block, whatever made the block; append to it. -/
namespace Go.Proofs.Ytefhhhdcgonmgaa.Hb
open Go.RowKit
set_option linter.unusedVariables false

def OwnS (base : Nat) (w : World) (v : Value) (xs : List Value) : Prop :=
  ∃ g cap cur T m, v = .slice (some ⟨g, 0, none⟩) xs.length cap ∧ base ≤ g ∧ w.heap[g]? = some (.cells cur T m) ∧ cur.size = cap ∧ xs.length ≤ cap ∧ (∀ i, i < xs.length → cur[i]? = xs[i]?) ∧ (∀ i, i < cap → ¬ (m.1 ≤ i ∧ i < m.2))

theorem OwnS.row {base : Nat} {w : World} {v : Value} {xs : List Value} (h : OwnS base w v xs) : ∃ g cap, v = .slice (some ⟨g, 0, none⟩) xs.length cap ∧ base ≤ g ∧ Row w g xs := by
  obtain ⟨g, cap, cur, T, m, rfl, hb, hg, hs, hl, hc, hf⟩ := h
  exact ⟨g, cap, rfl, hb, cur, T, m, hg, by omega, hc, fun i hi => hf i (by omega)⟩
theorem OwnS.same {base : Nat} {w w' : World} {v : Value} {xs : List Value} (h : OwnS base w v xs) (hb : ∀ g, v.ownBlock = some g → w'.heap[g]? = w.heap[g]?) : OwnS base w' v xs := by
  obtain ⟨g, cap, cur, T, m, rfl, h1, hg, h2⟩ := h
  exact ⟨g, cap, cur, T, m, rfl, h1, (hb g rfl).trans hg, h2⟩
theorem OwnS.lt {base : Nat} {w : World} {v : Value} {xs : List Value} (h : OwnS base w v xs) : ∀ g, v.ownBlock = some g → base ≤ g ∧ g < w.heap.size := by
  obtain ⟨g, cap, cur, T, m, rfl, h1, hg, h2⟩ := h
  intro g' e
  obtain rfl : g = g' := by simpa [Value.ownBlock] using e
  exact ⟨h1, (Array.getElem?_eq_some_iff.1 hg).1⟩
theorem OwnS.below {base : Nat} {w w' : World} {v : Value} {xs : List Value} (h : OwnS base w v xs) (hb : Below w.heap.size w w') : OwnS base w' v xs :=
  h.same fun g e => hb.block g (h.lt g e).2
theorem OwnS.alloc {base : Nat} {w : World} {v : Value} {xs : List Value} (h : OwnS base w v xs) (o : Obj) : OwnS base (w.alloc o) v xs := h.below ((Below.refl _ _).alloc (Nat.le_refl _) o)
theorem OwnS.other {base : Nat} {w : World} {v : Value} {xs : List Value} (h : OwnS base w v xs) {a : Addr} (hne : v.ownBlock ≠ some a.block) (u : Value) : OwnS base (w.setCell a u) v xs :=
  h.same fun g e => Below.heap_setCell w a u g (fun e2 => hne (by rw [e, e2]))
theorem OwnS.drew {base : Nat} {w : World} {v : Value} {xs : List Value} (h : OwnS base w v xs) : OwnS base w.drew v xs := h
theorem OwnS.bytes (w : World) (e : TypeId) (s : ByteArray) : OwnS w.heap.size (Lib.bytesWorld w e s) (.slice (some ⟨w.heap.size, 0, none⟩) s.size (grownCap w s.size 0 e)) (u8s (byt s)) := by
  have hge := grownCap_ge w s.size 0 e
  have h2 : (Lib.bytesCells w e s).size = s.size + (grownCap w s.size 0 e - s.size) := by simp [Lib.bytesCells]
  refine ⟨_, _, _, _, _, by rw [u8s_length, byt_length], Nat.le_refl _, Lib.bytesWorld_at_new w e s, by omega, by rw [u8s_length, byt_length]; exact hge, ?_, ?_⟩
  · intro i hi
    simp only [u8s_length, byt_length] at hi
    have hi' : i < s.data.size := by simpa using hi
    rw [Lib.bytesCells, Array.getElem?_append, if_pos (by simpa using hi')]
    simp [u8s, byt, hi]
  · intro i hi
    rw [h2]
    dsimp only
    omega

theorem append_ownS {P : Program} (t ty e : TypeId) (i : TypeInfo) (z : Value) (bytes : Nat) (h1 : P.underlying t = some (.slice e)) (h2 : P.info? e = some i) (h3 : i.zero = some z) (h4 : i.size = 1) (h5 : i.bytes = bytes) (h6 : z.cells.size = 1)
    {base : Nat} {w : World} {v : Value} {xs : List Value} (hv : OwnS base w v xs) (hbase : base ≤ w.heap.size) (ad : Addr) (c : Nat) (x : Value) (hc : w.cell? ad = some x) (ho : x.oneCell' = true)
    (hlen : xs.length + 1 ≤ maxLen) (hby : (xs.length + 1) * bytes ≤ 140737488355328) :
    ∃ v' w', (Builtin.append_ #[t, t] ty #[v, .slice (some ad) 1 c]).run P w = .ok v' w' ∧ OwnS base w' v' (xs ++ [x]) ∧ w.grownBy w' v.ownBlock ∧ (v'.ownBlock = v.ownBlock ∨ ∀ g, v'.ownBlock = some g → w.heap.size ≤ g) := by
  obtain ⟨g, cap, cur, T, m, rfl, hb, hg, hs, hl, hcell, hf⟩ := hv
  have hnews : ∀ j u, [x][j]? = some u → w.cell? (ad.add j) = some u := by
    intro j u hj
    match j, hj with
    | 0, hj =>
      simp at hj
      subst hj
      simpa [Addr.add] using hc
  by_cases hroom : xs.length + 1 ≤ cap
  · have hrun := run_append_room_cells (P := P) w t ty e i h1 h2 g 0 xs.length cap ad 1 c [x] (by simp [h4]) hnews (by simpa using ho) hroom
      (fun j hj => by
        simp at hj
        subst hj
        simp [World.cell?, hg, h4]
        omega)
      (fun j hj => by
        simp at hj
        subst hj
        have := hf xs.length (by omega)
        simp [World.frozen?, hg, h4]
        omega)
    refine ⟨_, _, hrun, ⟨g, cap, cur.set! xs.length x, T, m, by simp, hb, ?_, by simpa using hs, by simpa using hroom, ?_, by simpa using hf⟩, ?_, .inl rfl⟩
    · simp [World.setCells, World.setCell, Array.getElem?_modify, hg, h4]
    · intro j hj
      simp at hj
      rw [Array.set!_eq_setIfInBounds, Array.getElem?_setIfInBounds]
      by_cases e : xs.length = j
      · subst e
        simp [show xs.length < cur.size by omega]
      · simp [e]
        rw [List.getElem?_append_left (by omega), hcell j (by omega)]
    · refine ⟨rfl, rfl, rfl, by simp [World.setCells], fun k hk hne => ?_⟩
      simp only [World.setCells]
      exact Below.heap_setCell w _ _ k (fun e => hne (by simp [Value.ownBlock, e]))
  · obtain ⟨v', w', hrun, ⟨ho1, ho2⟩, hgr⟩ := run_append_arg_grows (P := P) w t ty e i z 1 bytes h1 h2 h3 h4 h5 h6 (by omega) ⟨g, 0, none⟩ xs.length cap xs (by simp)
      (fun j u hj => by
        have hjl : j < xs.length := by
          rcases Nat.lt_or_ge j xs.length with h | h
          · exact h
          · simp [List.getElem?_eq_none h] at hj
        rw [add_none, Nat.zero_add]
        simp [World.cell?, hg, hcell j hjl, hj])
      ad 1 c [x] rfl hnews (by omega) hlen hby
    rcases ho2 with ⟨_, h0⟩ | ⟨g', cap', cur', rfl, hb', hg', hn, hm, hsz, htk⟩
    · omega
    · refine ⟨_, w', hrun, ⟨g', cap', cur', e, (0, 0), by simp, by omega, hg', by omega, by simp; omega, ?_, by simp⟩, ⟨hgr.os, hgr.tape, hgr.output, hgr.size, fun k hk _ => hgr.block k hk (by simp)⟩, ?_⟩
      · intro j hj
        rw [← htk]
        simp at hj
        rw [List.getElem?_take, if_pos (by omega)]
        simp
      · refine .inr fun q hq => ?_
        obtain rfl : g' = q := by simpa [Value.ownBlock] using hq
        exact hb'

/-- Elements stored one behind the other, in an array. -/
def setA : Array Value → Nat → List Value → Array Value
  | c, _, [] => c
  | c, o, v :: r => setA (c.set! o v) (o + 1) r
theorem setA_size : ∀ (cs : List Value) (c : Array Value) (o : Nat), (setA c o cs).size = c.size
  | [], _, _ => rfl
  | v :: r, c, o => by rw [setA, setA_size r]; simp
theorem heap_setCells {g : Nat} {T : TypeId} {m : Nat × Nat} : ∀ (cs : List Value) (o : Nat) (w : World) (c : Array Value), w.heap[g]? = some (.cells c T m) → (w.setCells g o cs).heap[g]? = some (.cells (setA c o cs) T m)
  | [], _, _, _, h => h
  | v :: r, o, w, c, h => by
    refine heap_setCells r (o + 1) _ _ ?_
    simp [World.setCell, Array.getElem?_modify, h]
theorem setA_get : ∀ (cs : List Value) (c : Array Value) (o i : Nat), o + cs.length ≤ c.size → (setA c o cs)[i]? = if o ≤ i ∧ i < o + cs.length then cs[i - o]? else c[i]?
  | [], c, o, i, _ => by
    rw [setA, if_neg (by simp only [List.length_nil]; omega)]
  | v :: r, c, o, i, h => by
    simp only [List.length_cons] at h
    rw [setA, setA_get r _ _ _ (by simp; omega), Array.set!_eq_setIfInBounds, Array.getElem?_setIfInBounds]
    simp only [List.length_cons]
    by_cases e : o = i
    · subst e
      rw [if_neg (by omega), if_pos (by omega)]
      simp
      omega
    · by_cases h2 : o + 1 ≤ i ∧ i < o + 1 + r.length
      · rw [if_pos h2, if_pos (by omega), show i - o = (i - (o + 1)) + 1 by omega]
        simp
      · rw [if_neg h2, if_neg e, if_neg (by omega)]
theorem setCells_other {g : Nat} : ∀ (cs : List Value) (o : Nat) (w : World) (k : Nat), k ≠ g → (w.setCells g o cs).heap[k]? = w.heap[k]?
  | [], _, _, _, _ => rfl
  | v :: r, o, w, k, h => by
    rw [World.setCells, setCells_other r _ _ _ h]
    exact Below.heap_setCell w _ _ k h
theorem setCells_size {g : Nat} : ∀ (cs : List Value) (o : Nat) (w : World), (w.setCells g o cs).heap.size = w.heap.size
  | [], _, _ => rfl
  | v :: r, o, w => by rw [World.setCells, setCells_size r]; simp
theorem setCells_rest {g : Nat} : ∀ (cs : List Value) (o : Nat) (w : World), (w.setCells g o cs).os = w.os ∧ (w.setCells g o cs).tape = w.tape ∧ (w.setCells g o cs).output = w.output
  | [], _, _ => ⟨rfl, rfl, rfl⟩
  | v :: r, o, w => by rw [World.setCells]; exact setCells_rest r _ _

/-- A slice of the call's own, or nil. -/
def OwnN (base : Nat) (w : World) (v : Value) (xs : List Value) : Prop := (v = .slice none 0 0 ∧ xs = []) ∨ OwnS base w v xs
theorem OwnN.below {base : Nat} {w w' : World} {v : Value} {xs : List Value} (h : OwnN base w v xs) (hb : Below w.heap.size w w') : OwnN base w' v xs :=
  h.imp id fun h => h.below hb
theorem OwnS.of_owns {base n : Nat} {w : World} {e : TypeId} {v : Value} {xs : List Value} (h : w.ownsRow base e 1 v n xs) (hn : 0 < n) : OwnS base w v xs := by
  obtain ⟨h1, h2⟩ := h
  rcases h2 with ⟨_, h0⟩ | ⟨g', cap', cur', rfl, hb', hg', hn', hm, hsz, htk⟩
  · omega
  · have hx : xs.length = n := by omega
    refine ⟨g', cap', cur', e, (0, 0), by rw [hx], hb', hg', by omega, by omega, ?_, by simp⟩
    intro j hj
    rw [← htk, List.getElem?_take, if_pos (by omega)]
    simp

theorem append_many {P : Program} (t ty e : TypeId) (i : TypeInfo) (z : Value) (bytes : Nat) (h1 : P.underlying t = some (.slice e)) (h2 : P.info? e = some i) (h3 : i.zero = some z) (h4 : i.size = 1) (h5 : i.bytes = bytes) (h6 : z.cells.size = 1)
    {base : Nat} {w : World} {v : Value} {xs : List Value} (hv : OwnN base w v xs) (hbase : base ≤ w.heap.size) (ad : Addr) (c m : Nat) (ns : List Value) (hm : ns.length = m) (hpos : 0 < m) (hc : ∀ j u, ns[j]? = some u → w.cell? (ad.add j) = some u) (ho : ∀ u ∈ ns, u.oneCell' = true)
    (hlen : xs.length + m ≤ maxLen) (hby : (xs.length + m) * bytes ≤ 140737488355328) :
    ∃ v' w', (Builtin.append_ #[t, t] ty #[v, .slice (some ad) m c]).run P w = .ok v' w' ∧ OwnS base w' v' (xs ++ ns) ∧ w.grownBy w' v.ownBlock ∧ (v'.ownBlock = v.ownBlock ∨ ∀ g, v'.ownBlock = some g → w.heap.size ≤ g) := by
  subst hm
  rcases hv with ⟨rfl, rfl⟩ | hv
  · obtain ⟨v', w', hr, hown, hgr, _⟩ := run_append_own (P := P) w w.heap.size t ty e i z 1 bytes h1 h2 h3 h4 h5 h6 (by omega) (.slice none 0 0) 0 [] (World.ownsRow_nil _ _ _ _) ad ns.length c ns (by simp) hc ho (by simpa using hlen) (by simpa using hby) (Nat.le_refl _)
    have hS := OwnS.of_owns hown (by omega)
    refine ⟨v', w', hr, ?_, hgr, .inr fun g hg => (hS.lt g hg).1⟩
    obtain ⟨g, cap, cur, T, m, rfl, hb, hrest⟩ := hS
    exact ⟨g, cap, cur, T, m, rfl, by omega, hrest⟩
  obtain ⟨g, cap, cur, T, m, rfl, hb, hg, hs, hl, hcell, hf⟩ := hv
  by_cases hroom : xs.length + ns.length ≤ cap
  · have hrun := run_append_room_cells (P := P) w t ty e i h1 h2 g 0 xs.length cap ad ns.length c ns (by simp [h4]) hc ho hroom
      (fun j hj => by
        simp [World.cell?, hg, h4]
        omega)
      (fun j hj => by
        have := hf (xs.length + j) (by omega)
        simp [World.frozen?, hg, h4]
        omega)
    rw [h4, Nat.mul_one, Nat.zero_add] at hrun
    obtain ⟨r1, r2, r3⟩ := setCells_rest ns xs.length w (g := g)
    refine ⟨_, _, hrun, ⟨g, cap, setA cur xs.length ns, T, m, by simp, hb, heap_setCells _ _ _ _ hg, by rw [setA_size]; exact hs, by simpa using hroom, ?_, hf⟩, ⟨r1, r2, r3, by rw [setCells_size]; exact Nat.le_refl _, fun k hk hne => setCells_other _ _ _ _ (fun e => hne (by simp [Value.ownBlock, e]))⟩, .inl rfl⟩
    intro j hj
    simp at hj
    rw [setA_get _ _ _ _ (by omega)]
    by_cases e : j < xs.length
    · rw [if_neg (by omega), List.getElem?_append_left e, hcell j e]
    · rw [if_pos (by omega), List.getElem?_append_right (by omega)]
  · obtain ⟨v', w', hrun, hown, hgr⟩ := run_append_arg_grows (P := P) w t ty e i z 1 bytes h1 h2 h3 h4 h5 h6 (by omega) ⟨g, 0, none⟩ xs.length cap xs (by simp)
      (fun j u hj => by
        have hjl : j < xs.length := by
          rcases Nat.lt_or_ge j xs.length with h | h
          · exact h
          · simp [List.getElem?_eq_none h] at hj
        rw [add_none, Nat.zero_add]
        simp [World.cell?, hg, hcell j hjl, hj])
      ad ns.length c ns (by simp) hc (by omega) hlen hby
    have hS := OwnS.of_owns hown (by omega)
    refine ⟨v', w', hrun, ?_, ⟨hgr.os, hgr.tape, hgr.output, hgr.size, fun k hk _ => hgr.block k hk (by simp)⟩, .inr fun q hq => (hS.lt q hq).1⟩
    obtain ⟨g2, cap2, cur2, T2, m2, rfl, hb2, hrest⟩ := hS
    exact ⟨g2, cap2, cur2, T2, m2, rfl, by omega, hrest⟩

/-- append, as one step of a region that draws its order. -/
theorem step_append_run {P : Program} {ops : Array Oper} {o : Oper} {a : Act} {w : World} {K : Act → World → Prop} {Q : Exit → Act → World → Prop} {E : Prop}
    (hg : o.guard = none) (s x : Operand) (t u : TypeId) (hop : o.op = Op.call { callee := Callee.builtin Builtin.append, args := #[s, x], argTypes := #[t, u] })
    {v xv v' : Value} {w' : World} {ty : TypeId} (hty : o.type = ty) (hs : a.eval s = v) (hx : a.eval x = xv) (hrun : (Builtin.append_ #[t, u] ty #[v, xv]).run P w = .ok v' w') (hK : K (a.put o.dst v') w') :
    if Region.wanted o (yielded ops a.tmps) = true then Oper.wp P o a w K Q else E := by
  have hw : Region.wanted o (yielded ops a.tmps) = true := by simp [Region.wanted, hg]
  rw [if_pos hw]
  subst hty
  unfold Oper.wp
  simp [execOp, hop, resolve, invoke, builtin, hs, hx, hrun, Result.andThen]
  exact hK
/-- append, as one operation of the walk. -/
theorem wpList_append_run {P : Program} (w : World) {ops : Array Oper} {rest : List Oper} {o : Oper} {a : Act} {Q : Exit → Act → World → Prop}
    (hg : o.guard = none) (s x : Operand) (t u : TypeId) (hop : o.op = Op.call { callee := Callee.builtin Builtin.append, args := #[s, x], argTypes := #[t, u] })
    {v xv v' : Value} {w' : World} {ty : TypeId} (hty : o.type = ty) (hs : a.eval s = v) (hx : a.eval x = xv) (hrun : (Builtin.append_ #[t, u] ty #[v, xv]).run P w = .ok v' w') (hK : wpList P ops Q rest (a.put o.dst v') w') :
    wpList P ops Q (o :: rest) a w := by
  refine wpList_plain hg fun K hK' => ?_
  subst hty
  unfold Oper.wp
  simp [execOp, hop, resolve, invoke, builtin, hs, hx, hrun, Result.andThen]
  exact hK' _ _ hK

theorem A_info8 : (Try.prog.info? 5).map (fun i => (i.zero, i.size, i.bytes)) = some (some (.int .u8 0), 1, 1) := by kernel_rfl
/-- make([]byte, n) -/
theorem make_bytes (w : World) (n : Nat) (hn : n ≤ 140737488351232) :
    ∃ cs, (Instr.makeSlice 32 (.int .i64 (n : Int)) (.int .i64 (n : Int))).run Try.prog w = .ok (.slice (some ⟨w.heap.size, 0, none⟩) n n) (w.alloc (.cells cs 5)) ∧ cs.toList = u8s (List.replicate n 0) := by
  obtain ⟨i0, hi, hz0, hz1, hz2⟩ := info_parts A_info8
  have h := run_make (P := Try.prog) w 32 5 i0 (.int .u8 0) Try.underlying32 hi hz0 .i64 .i64 n n (by omega) (by omega) (by rw [hz2]; omega) (by omega)
  rw [Int.toNat_natCast, hz1, Nat.mul_one] at h
  refine ⟨_, h, ?_⟩
  apply List.ext_getElem
  · simp [madeCells, u8s]
  · intro i h1 h2
    simp [madeCells, u8s, Value.cells]
    rw [Nat.mod_one]
    rfl
theorem OwnS.make (w : World) (n : Nat) (cs : Array Value) (T : TypeId) (h : cs.toList = u8s (List.replicate n 0)) : OwnS w.heap.size (w.alloc (.cells cs T)) (.slice (some ⟨w.heap.size, 0, none⟩) n n) (u8s (List.replicate n 0)) := by
  have hl : cs.size = n := by rw [← Array.length_toList, h]; simp
  refine ⟨w.heap.size, n, cs, T, (0, 0), by simp, Nat.le_refl _, heap_alloc_new w _, hl, by simp, ?_, by simp⟩
  intro i hi
  rw [← h]
  simp
end Go.Proofs.Ytefhhhdcgonmgaa.Hb
namespace Go.Proofs.Ytefhhhdcgonmgaa.Hb
open Go.RowKit
set_option linter.unusedVariables false

set_option maxHeartbeats 400000 in
theorem mulGf_any (a b : Int) (w : World) (hb0 : 0 ≤ b) (hb1 : b ≤ 255) :
    Calls Try.prog 28 #[.int .u8 a, .int .u8 b] w fun e w' => e = .returned (.int .u8 (gm a b)) ∧ w = w' := by
  have H0 : Hid (gmN 8 a b 0 = gm a b) := Lib.hid rfl
  go_enter Try.func28, Try.ntmps28
  go_wp2
  go_loop [0, 1, 5] (fun v0 v1 v5 => ∃ (n : Nat) (a' b' o' : Int), v0 = .int .u8 a' ∧ v1 = .int .u8 b' ∧ v5 = .int .u8 o' ∧ Hid (gmN n a' b' o' = gm a b) ∧ 0 ≤ b' ∧ b' < 2 ^ n ∧ n ≤ 8) (fun _ v1 _ => (intOf v1).toNat)
  case atStart => exact ⟨8, a, b, 0, rfl, rfl, rfl, H0, hb0, by omega, by omega⟩
  case round =>
    obtain ⟨n, a', b', o', rfl, rfl, rfl, H, h0, h1, hn⟩ := hrel
    by_cases hz : b' = 0
    · have hz1 : (b' != 0) = false := bne_eq_false_iff_eq.mpr hz
      have hz2 : (b' == 0) = true := beq_iff_eq.mpr hz
      have HR : Hid (o' = gm a b) := by
        have := H.out
        rw [hz, gmN_zero] at this
        exact Lib.hid this
      clear hz H
      go_wp2
      go_ret
      exact ⟨ret_int HR.out, rfl⟩
    · have hz1 : (b' != 0) = true := bne_iff_ne.mpr hz
      have hz2 : (b' == 0) = false := beq_eq_false_iff_ne.mpr hz
      obtain ⟨m, rfl⟩ : ∃ m, n = m + 1 := by
        cases n with
        | zero => omega
        | succ m => exact ⟨m, rfl⟩
      have hs := H.out
      rw [gmN_step m a' b' o' hz] at hs
      clear H
      have hlt : b' / 2 < 2 ^ m := by rw [Int.pow_succ] at h1; omega
      by_cases c1 : bits .and .u8 b' 1 = 1
      · rw [if_pos c1] at hs
        have c1b : (bits .and .u8 b' 1 == 1) = true := beq_iff_eq.mpr c1
        have c1c : (bits .and .u8 b' 1 != 1) = false := bne_eq_false_iff_eq.mpr c1
        clear c1
        by_cases c2 : bits .and .u8 a' 128 = 0
        · have hx : xt a' = (a' * 2) % 256 := by unfold xt; rw [if_pos c2]
          rw [hx] at hs
          have HS : Hid _ := Lib.hid hs
          have c2b : (bits .and .u8 a' 128 != 0) = false := bne_eq_false_iff_eq.mpr c2
          have c2c : (bits .and .u8 a' 128 == 0) = true := beq_iff_eq.mpr c2
          clear c2 hs hx
          go_wp2
          go_round
          case rel => exact ⟨m, _, _, _, rfl, rfl, rfl, HS, by omega, hlt, by omega⟩
          case measure => simp [intOf]; omega
        · have hx : xt a' = bits .xor .u8 ((a' * 2) % 256) 27 := by unfold xt; rw [if_neg c2]
          rw [hx] at hs
          have HS : Hid _ := Lib.hid hs
          have c2b : (bits .and .u8 a' 128 != 0) = true := bne_iff_ne.mpr c2
          have c2c : (bits .and .u8 a' 128 == 0) = false := beq_eq_false_iff_ne.mpr c2
          clear c2 hs hx
          go_wp2
          go_round
          case rel => exact ⟨m, _, _, _, rfl, rfl, rfl, HS, by omega, hlt, by omega⟩
          case measure => simp [intOf]; omega
      · rw [if_neg c1] at hs
        have c1b : (bits .and .u8 b' 1 == 1) = false := beq_eq_false_iff_ne.mpr c1
        have c1c : (bits .and .u8 b' 1 != 1) = true := bne_iff_ne.mpr c1
        clear c1
        by_cases c2 : bits .and .u8 a' 128 = 0
        · have hx : xt a' = (a' * 2) % 256 := by unfold xt; rw [if_pos c2]
          rw [hx] at hs
          have HS : Hid _ := Lib.hid hs
          have c2b : (bits .and .u8 a' 128 != 0) = false := bne_eq_false_iff_eq.mpr c2
          have c2c : (bits .and .u8 a' 128 == 0) = true := beq_iff_eq.mpr c2
          clear c2 hs hx
          go_wp2
          go_round
          case rel => exact ⟨m, _, _, _, rfl, rfl, rfl, HS, by omega, hlt, by omega⟩
          case measure => simp [intOf]; omega
        · have hx : xt a' = bits .xor .u8 ((a' * 2) % 256) 27 := by unfold xt; rw [if_neg c2]
          rw [hx] at hs
          have HS : Hid _ := Lib.hid hs
          have c2b : (bits .and .u8 a' 128 != 0) = true := bne_iff_ne.mpr c2
          have c2c : (bits .and .u8 a' 128 == 0) = false := beq_eq_false_iff_ne.mpr c2
          clear c2 hs hx
          go_wp2
          go_round
          case rel => exact ⟨m, _, _, _, rfl, rfl, rfl, HS, by omega, hlt, by omega⟩
          case measure => simp [intOf]; omega

set_option maxRecDepth 100000 in
set_option maxHeartbeats 400000 in
theorem inverseGf_any (a : Int) (w : World) (ha0 : 0 ≤ a) (ha1 : a ≤ 255) :
    Calls Try.prog 57 #[.int .u8 a] w fun e w' => e = .returned (.int .u8 (ginv a)) ∧ w = w' := by
  go_enter Try.func57, Try.ntmps57
  go_wp2
  go_loop [3, 4] (fun v3 v4 => ∃ k : Nat, k ≤ 254 ∧ v4 = .int .i64 k ∧ v3 = .int .u8 (gpow a k)) (fun _ v4 => 254 - (intOf v4).toNat)
  case atStart => exact ⟨0, by omega, rfl, rfl⟩
  case round =>
    obtain ⟨k, hk, rfl, rfl⟩ := hrel
    by_cases hlt : k < 254
    · go_wp2_with (go_at_call 28; refine (mulGf_any _ _ _ ha0 ha1).mono ?_; rintro e w' ⟨rfl, rfl⟩)
      go_round
      case rel => exact ⟨k + 1, by omega, by go_num, rfl⟩
      case measure => simp [intOf]; omega
    · have hk2 : Hid (gpow a k = ginv a) := Lib.hid (by rw [show k = 254 by omega]; exact ginv_def a)
      go_wp2
      go_ret
      exact ⟨ret_int hk2.out, rfl⟩


set_option maxHeartbeats 400000 in
theorem rot8_any (x : Int) (k : Int) (w : World) (hx0 : 0 ≤ x) (hx1 : x ≤ 255) (hk0 : 1 ≤ k) (hk1 : k ≤ 4) :
    Calls Try.prog 58 #[.int .u8 x, .int .i64 k] w fun e w' => e = .returned (.int .u8 (rotl8 x k)) ∧ w = w' := by
  rcases (show k = 1 ∨ k = 2 ∨ k = 3 ∨ k = 4 by omega) with rfl | rfl | rfl | rfl
  · have hb : bits .and .u64 1 7 = 1 := by kernel_rfl
    go_enter Try.func58, Try.ntmps58
    go_wp2
    go_ret
    exact ⟨ret_int rfl, rfl⟩
  · have hb : bits .and .u64 2 7 = 2 := by kernel_rfl
    go_enter Try.func58, Try.ntmps58
    go_wp2
    go_ret
    exact ⟨ret_int rfl, rfl⟩
  · have hb : bits .and .u64 3 7 = 3 := by kernel_rfl
    go_enter Try.func58, Try.ntmps58
    go_wp2
    go_ret
    exact ⟨ret_int rfl, rfl⟩
  · have hb : bits .and .u64 4 7 = 4 := by kernel_rfl
    go_enter Try.func58, Try.ntmps58
    go_wp2
    go_ret
    exact ⟨ret_int rfl, rfl⟩

set_option maxRecDepth 100000 in
set_option maxHeartbeats 400000 in
theorem subByte_any (a : Int) (w : World) (ha0 : 0 ≤ a) (ha1 : a ≤ 255) :
    Calls Try.prog 44 #[.int .u8 a] w fun e w' => e = .returned (.int .u8 (sb a)) ∧ w = w' := by
  have hr := gpow_range a 254
  rw [ginv_def] at hr
  go_enter Try.func44, Try.ntmps44
  go_wp2_with (go_at_call 57; refine (inverseGf_any _ _ ha0 ha1).mono ?_; rintro e w' ⟨rfl, rfl⟩)
  go_loop [4, 5] (fun v4 v5 => ∃ k : Nat, k ≤ 4 ∧ v5 = .int .i64 ((k : Int) + 1) ∧ v4 = .int .u8 (sbN (ginv a) k)) (fun _ v5 => 5 - (intOf v5).toNat)
  case atStart => exact ⟨0, by omega, rfl, rfl⟩
  case round =>
    obtain ⟨k, hk, rfl, rfl⟩ := hrel
    by_cases hlt : k < 4
    · go_wp2_with (go_at_call 58; refine (rot8_any _ _ _ hr.1 hr.2 (by omega) (by omega)).mono ?_; rintro e w' ⟨rfl, rfl⟩)
      go_round
      case rel => exact ⟨k + 1, by omega, by go_num, rfl⟩
      case measure => simp [intOf]; omega
    · have hk2 : Hid (sbN (ginv a) k = sb a) := Lib.hid (by rw [show k = 4 by omega]; rfl)
      go_wp2
      go_ret
      exact ⟨ret_int hk2.out, rfl⟩
end Go.Proofs.Ytefhhhdcgonmgaa.Hb
namespace Go.Proofs.Ytefhhhdcgonmgaa.Hb
open Go.RowKit
set_option linter.unusedVariables false

/-- Stands only where the walk is at the operation that writes slot n. -/
theorem at_op (n : Nat) {P : Program} {ops : Array Oper} {Q : Exit → Act → World → Prop} {rest : List Oper} {a : Act} {w : World} {op : Op} {ty : TypeId} {ps : String} {af : Array Edge} {gd : Option (Nat × Bool)}
    (h : wpList P ops Q (⟨some n, op, ty, ps, af, gd⟩ :: rest) a w) : wpList P ops Q (⟨some n, op, ty, ps, af, gd⟩ :: rest) a w := h
/-- The first k of n numbers by a rule, the others 0. -/
def fillTo (n : Nat) (f : Nat → Int) : Nat → List Int
  | 0 => List.replicate n 0
  | k + 1 => (fillTo n f k).set k (f k)
@[simp] theorem fillTo_length (n : Nat) (f : Nat → Int) (k : Nat) : (fillTo n f k).length = n := by
  induction k with
  | zero => rw [fillTo, List.length_replicate]
  | succ k ih => rw [fillTo, List.length_set, ih]
theorem fillTo_get (n : Nat) (f : Nat → Int) (k : Nat) (hk : k ≤ n) : ∀ i, i < k → (fillTo n f k).getD i 0 = f i := by
  induction k with
  | zero => intro i hi; omega
  | succ k ih =>
    intro i hi
    rw [fillTo, List.getD_eq_getElem?_getD, List.getElem?_set]
    by_cases e : k = i
    · subst e
      simp [show k < n by omega]
    · rw [if_neg e, ← List.getD_eq_getElem?_getD]
      exact ih (by omega) i (by omega)
theorem fillTo_step (n : Nat) (f : Nat → Int) (k : Nat) : (fillTo n f k).set k (f k) = fillTo n f (k + 1) := rfl
theorem OwnS.set {base n cap g : Nat} {w : World} {xs : List Value} (h : OwnS base w (.slice (some ⟨g, 0, none⟩) n cap) xs) {i : Nat} (hi : i < xs.length) (v : Value) :
    OwnS base (w.setCell ⟨g, i, none⟩ v) (.slice (some ⟨g, 0, none⟩) n cap) (xs.set i v) := by
  obtain ⟨g', cap', cur, T, m, e, hb, hg, hs, hl, hcell, hf⟩ := h
  simp at e
  obtain ⟨rfl, rfl, rfl⟩ := e
  refine ⟨g, cap, cur.set! i v, T, m, by simp, hb, ?_, by simpa using hs, by simpa using hl, ?_, by simpa using hf⟩
  · simp [World.setCell, Array.getElem?_modify, hg]
  · intro j hj
    simp only [List.length_set] at hj
    rw [List.getElem?_set, Array.set!_eq_setIfInBounds, Array.getElem?_setIfInBounds]
    by_cases e : i = j
    · subst e
      simp [hi, show i < cur.size by omega]
    · simp [e, hcell j hj]
theorem OwnS.cell {base n cap g : Nat} {w : World} {xs : List Value} (h : OwnS base w (.slice (some ⟨g, 0, none⟩) n cap) xs) {i : Nat} {v : Value} (hv : xs[i]? = some v) : w.cell? ⟨g, i, none⟩ = some v := by
  obtain ⟨g', cap', e, _, hr⟩ := h.row
  simp at e
  obtain ⟨rfl, _⟩ := e
  exact hr.cell hv
theorem OwnS.free {base n cap g : Nat} {w : World} {xs : List Value} (h : OwnS base w (.slice (some ⟨g, 0, none⟩) n cap) xs) {i : Nat} (hi : i < xs.length) : w.frozen? ⟨g, i, none⟩ = false := by
  obtain ⟨g', cap', e, _, hr⟩ := h.row
  simp at e
  obtain ⟨rfl, _⟩ := e
  exact hr.free hi
theorem OwnS.row' {base n cap g : Nat} {w : World} {xs : List Value} (h : OwnS base w (.slice (some ⟨g, 0, none⟩) n cap) xs) : Row w g xs := by
  obtain ⟨g', cap', e, _, hr⟩ := h.row
  simp at e
  obtain ⟨rfl, _⟩ := e
  exact hr
end Go.Proofs.Ytefhhhdcgonmgaa.Hb
namespace Go.Proofs.Ytefhhhdcgonmgaa.Hb
open Go.RowKit
set_option linter.unusedVariables false

def sqN (a : Int) : Nat → Int
  | 0 => a
  | k + 1 => gm (sqN a k) (sqN a k)
def invN (a : Int) : Nat → Int
  | 0 => 1
  | k + 1 => if (254 / 2 ^ k) % 2 = 1 then gm (invN a k) (sqN a k) else invN a k
def ginvS (a : Int) : Int := invN a 8
theorem ginvS_def (a : Int) : invN a 8 = ginvS a := rfl
theorem sqN_range {a : Int} (h0 : 0 ≤ a) (h1 : a ≤ 255) (k : Nat) : 0 ≤ sqN a k ∧ sqN a k ≤ 255 := by
  cases k with
  | zero => exact ⟨h0, h1⟩
  | succ k => exact gm_range _ _
theorem invN_range (a : Int) (k : Nat) : 0 ≤ invN a k ∧ invN a k ≤ 255 := by
  induction k with
  | zero => exact ⟨by simp [invN], by simp [invN]⟩
  | succ k ih =>
    rw [invN]
    split
    · exact gm_range _ _
    · exact ih
def sbS (b : Int) : Int := bits .xor .u8 (bits .xor .u8 (bits .xor .u8 (bits .xor .u8 (bits .xor .u8 (ginvS b) (rotl8 (ginvS b) 1)) (rotl8 (ginvS b) 2)) (rotl8 (ginvS b) 3)) (rotl8 (ginvS b) 4)) 99

set_option maxHeartbeats 400000 in
theorem l3Mul_any (a b : Int) (w : World) (hb0 : 0 ≤ b) (hb1 : b ≤ 255) :
    Calls Try.prog 37 #[.int .u8 a, .int .u8 b] w fun e w' => e = .returned (.int .u8 (gm a b)) ∧ w = w' := by
  have H0 : Hid (gmN 8 a b 0 = gm a b) := Lib.hid rfl
  go_enter Try.func37, Try.ntmps37
  go_wp2
  go_loop [0, 1, 5] (fun v0 v1 v5 => ∃ (n : Nat) (a' b' o' : Int), v0 = .int .u8 a' ∧ v1 = .int .u8 b' ∧ v5 = .int .u8 o' ∧ Hid (gmN n a' b' o' = gm a b) ∧ 0 ≤ b' ∧ b' < 2 ^ n ∧ n ≤ 8) (fun _ v1 _ => (intOf v1).toNat)
  case atStart => exact ⟨8, a, b, 0, rfl, rfl, rfl, H0, hb0, by omega, by omega⟩
  case round =>
    obtain ⟨n, a', b', o', rfl, rfl, rfl, H, h0, h1, hn⟩ := hrel
    by_cases hz : b' = 0
    · have hz1 : decide (0 < b') = false := by simp; omega
      have hz2 : ¬ 0 < b' := by omega
      have HR : Hid (o' = gm a b) := by
        have := H.out
        rw [hz, gmN_zero] at this
        exact Lib.hid this
      clear hz H
      go_wp2
      go_ret
      exact ⟨ret_int HR.out, rfl⟩
    · have hz1 : decide (0 < b') = true := by simp; omega
      have hz2 : 0 < b' := by omega
      obtain ⟨m, rfl⟩ : ∃ m, n = m + 1 := by
        cases n with
        | zero => omega
        | succ m => exact ⟨m, rfl⟩
      have hs := H.out
      rw [gmN_step m a' b' o' hz] at hs
      clear H
      have hlt : b' / 2 < 2 ^ m := by rw [Int.pow_succ] at h1; omega
      by_cases c1 : bits .and .u8 b' 1 = 1
      · rw [if_pos c1] at hs
        have c1b : (bits .and .u8 b' 1 == 1) = true := beq_iff_eq.mpr c1
        have c1c : (bits .and .u8 b' 1 != 1) = false := bne_eq_false_iff_eq.mpr c1
        clear c1
        by_cases c2 : bits .and .u8 a' 128 = 0
        · have hx : xt a' = (a' * 2) % 256 := by unfold xt; rw [if_pos c2]
          rw [hx] at hs
          have HS : Hid _ := Lib.hid hs
          have c2b : (bits .and .u8 a' 128 != 0) = false := bne_eq_false_iff_eq.mpr c2
          have c2c : (bits .and .u8 a' 128 == 0) = true := beq_iff_eq.mpr c2
          clear c2 hs hx
          go_wp2
          go_round
          case rel => exact ⟨m, _, _, _, rfl, rfl, rfl, HS, by omega, hlt, by omega⟩
          case measure => simp [intOf]; omega
        · have hx : xt a' = bits .xor .u8 ((a' * 2) % 256) 27 := by unfold xt; rw [if_neg c2]
          rw [hx] at hs
          have HS : Hid _ := Lib.hid hs
          have c2b : (bits .and .u8 a' 128 != 0) = true := bne_iff_ne.mpr c2
          have c2c : (bits .and .u8 a' 128 == 0) = false := beq_eq_false_iff_ne.mpr c2
          clear c2 hs hx
          go_wp2
          go_round
          case rel => exact ⟨m, _, _, _, rfl, rfl, rfl, HS, by omega, hlt, by omega⟩
          case measure => simp [intOf]; omega
      · rw [if_neg c1] at hs
        have c1b : (bits .and .u8 b' 1 == 1) = false := beq_eq_false_iff_ne.mpr c1
        have c1c : (bits .and .u8 b' 1 != 1) = true := bne_iff_ne.mpr c1
        clear c1
        by_cases c2 : bits .and .u8 a' 128 = 0
        · have hx : xt a' = (a' * 2) % 256 := by unfold xt; rw [if_pos c2]
          rw [hx] at hs
          have HS : Hid _ := Lib.hid hs
          have c2b : (bits .and .u8 a' 128 != 0) = false := bne_eq_false_iff_eq.mpr c2
          have c2c : (bits .and .u8 a' 128 == 0) = true := beq_iff_eq.mpr c2
          clear c2 hs hx
          go_wp2
          go_round
          case rel => exact ⟨m, _, _, _, rfl, rfl, rfl, HS, by omega, hlt, by omega⟩
          case measure => simp [intOf]; omega
        · have hx : xt a' = bits .xor .u8 ((a' * 2) % 256) 27 := by unfold xt; rw [if_neg c2]
          rw [hx] at hs
          have HS : Hid _ := Lib.hid hs
          have c2b : (bits .and .u8 a' 128 != 0) = true := bne_iff_ne.mpr c2
          have c2c : (bits .and .u8 a' 128 == 0) = false := beq_eq_false_iff_ne.mpr c2
          clear c2 hs hx
          go_wp2
          go_round
          case rel => exact ⟨m, _, _, _, rfl, rfl, rfl, HS, by omega, hlt, by omega⟩
          case measure => simp [intOf]; omega

set_option maxRecDepth 100000 in
set_option maxHeartbeats 1000000 in
theorem l3Inverse_any (a : Int) (w : World) (ha0 : 0 ≤ a) (ha1 : a ≤ 255) :
    Calls Try.prog 53 #[.int .u8 a] w fun e w' => e = .returned (.int .u8 (ginvS a)) ∧ w = w' := by
  go_enter Try.func53, Try.ntmps53
  go_wp2
  go_loop [0, 3, 4] (fun v0 v3 v4 => ∃ (k : Nat) (n : Int), k ≤ 8 ∧ n = 254 / 2 ^ k ∧ v0 = .int .u8 (sqN a k) ∧ v3 = .int .u8 (invN a k) ∧ v4 = .int .i64 n) (fun _ _ v4 => (intOf v4).toNat)
  case atStart => exact ⟨0, 254, by omega, rfl, rfl, rfl, rfl⟩
  case round =>
    obtain ⟨k, n, hk, hn, rfl, rfl, rfl⟩ := hrel
    rcases (show k = 0 ∨ k = 1 ∨ k = 2 ∨ k = 3 ∨ k = 4 ∨ k = 5 ∨ k = 6 ∨ k = 7 ∨ k = 8 by omega) with rfl | rfl | rfl | rfl | rfl | rfl | rfl | rfl | rfl
    · obtain rfl : n = 254 := by rw [hn]; rfl
      clear hn hk
      have hb : bits .and .i64 254 1 = 0 := by kernel_rfl
      obtain ⟨q0, q1⟩ := sqN_range ha0 ha1 0
      obtain ⟨x, hx⟩ : ∃ x, x = sqN a 0 := ⟨_, rfl⟩
      obtain ⟨y, hy⟩ : ∃ y, y = invN a 0 := ⟨_, rfl⟩
      rw [← hx] at q0 q1
      rw [← hx, ← hy]
      have HX : Hid (sqN a (0 + 1) = gm x x) := by rw [hx]; exact Lib.hid rfl
      have HY : Hid (invN a (0 + 1) = y) := by rw [hy]; exact Lib.hid (by rw [invN]; first | exact if_pos (by decide) | exact if_neg (by decide))
      clear hx hy
      go_wp2_with (go_at_call 37; refine (l3Mul_any _ _ _ q0 q1).mono ?_; rintro e w' ⟨rfl, rfl⟩)
      go_round
      case rel => exact ⟨0 + 1, 127, by omega, rfl, by rw [HX.out], by rw [HY.out], rfl⟩
      case measure => simp [intOf]
    · obtain rfl : n = 127 := by rw [hn]; rfl
      clear hn hk
      have hb : bits .and .i64 127 1 = 1 := by kernel_rfl
      obtain ⟨q0, q1⟩ := sqN_range ha0 ha1 1
      obtain ⟨x, hx⟩ : ∃ x, x = sqN a 1 := ⟨_, rfl⟩
      obtain ⟨y, hy⟩ : ∃ y, y = invN a 1 := ⟨_, rfl⟩
      rw [← hx] at q0 q1
      rw [← hx, ← hy]
      have HX : Hid (sqN a (1 + 1) = gm x x) := by rw [hx]; exact Lib.hid rfl
      have HY : Hid (invN a (1 + 1) = gm y x) := by rw [hy, hx]; exact Lib.hid (by rw [invN]; first | exact if_pos (by decide) | exact if_neg (by decide))
      clear hx hy
      go_wp2_with (go_at_call 37; refine (l3Mul_any _ _ _ q0 q1).mono ?_; rintro e w' ⟨rfl, rfl⟩)
      go_round
      case rel => exact ⟨1 + 1, 63, by omega, rfl, by rw [HX.out], by rw [HY.out], rfl⟩
      case measure => simp [intOf]
    · obtain rfl : n = 63 := by rw [hn]; rfl
      clear hn hk
      have hb : bits .and .i64 63 1 = 1 := by kernel_rfl
      obtain ⟨q0, q1⟩ := sqN_range ha0 ha1 2
      obtain ⟨x, hx⟩ : ∃ x, x = sqN a 2 := ⟨_, rfl⟩
      obtain ⟨y, hy⟩ : ∃ y, y = invN a 2 := ⟨_, rfl⟩
      rw [← hx] at q0 q1
      rw [← hx, ← hy]
      have HX : Hid (sqN a (2 + 1) = gm x x) := by rw [hx]; exact Lib.hid rfl
      have HY : Hid (invN a (2 + 1) = gm y x) := by rw [hy, hx]; exact Lib.hid (by rw [invN]; first | exact if_pos (by decide) | exact if_neg (by decide))
      clear hx hy
      go_wp2_with (go_at_call 37; refine (l3Mul_any _ _ _ q0 q1).mono ?_; rintro e w' ⟨rfl, rfl⟩)
      go_round
      case rel => exact ⟨2 + 1, 31, by omega, rfl, by rw [HX.out], by rw [HY.out], rfl⟩
      case measure => simp [intOf]
    · obtain rfl : n = 31 := by rw [hn]; rfl
      clear hn hk
      have hb : bits .and .i64 31 1 = 1 := by kernel_rfl
      obtain ⟨q0, q1⟩ := sqN_range ha0 ha1 3
      obtain ⟨x, hx⟩ : ∃ x, x = sqN a 3 := ⟨_, rfl⟩
      obtain ⟨y, hy⟩ : ∃ y, y = invN a 3 := ⟨_, rfl⟩
      rw [← hx] at q0 q1
      rw [← hx, ← hy]
      have HX : Hid (sqN a (3 + 1) = gm x x) := by rw [hx]; exact Lib.hid rfl
      have HY : Hid (invN a (3 + 1) = gm y x) := by rw [hy, hx]; exact Lib.hid (by rw [invN]; first | exact if_pos (by decide) | exact if_neg (by decide))
      clear hx hy
      go_wp2_with (go_at_call 37; refine (l3Mul_any _ _ _ q0 q1).mono ?_; rintro e w' ⟨rfl, rfl⟩)
      go_round
      case rel => exact ⟨3 + 1, 15, by omega, rfl, by rw [HX.out], by rw [HY.out], rfl⟩
      case measure => simp [intOf]
    · obtain rfl : n = 15 := by rw [hn]; rfl
      clear hn hk
      have hb : bits .and .i64 15 1 = 1 := by kernel_rfl
      obtain ⟨q0, q1⟩ := sqN_range ha0 ha1 4
      obtain ⟨x, hx⟩ : ∃ x, x = sqN a 4 := ⟨_, rfl⟩
      obtain ⟨y, hy⟩ : ∃ y, y = invN a 4 := ⟨_, rfl⟩
      rw [← hx] at q0 q1
      rw [← hx, ← hy]
      have HX : Hid (sqN a (4 + 1) = gm x x) := by rw [hx]; exact Lib.hid rfl
      have HY : Hid (invN a (4 + 1) = gm y x) := by rw [hy, hx]; exact Lib.hid (by rw [invN]; first | exact if_pos (by decide) | exact if_neg (by decide))
      clear hx hy
      go_wp2_with (go_at_call 37; refine (l3Mul_any _ _ _ q0 q1).mono ?_; rintro e w' ⟨rfl, rfl⟩)
      go_round
      case rel => exact ⟨4 + 1, 7, by omega, rfl, by rw [HX.out], by rw [HY.out], rfl⟩
      case measure => simp [intOf]
    · obtain rfl : n = 7 := by rw [hn]; rfl
      clear hn hk
      have hb : bits .and .i64 7 1 = 1 := by kernel_rfl
      obtain ⟨q0, q1⟩ := sqN_range ha0 ha1 5
      obtain ⟨x, hx⟩ : ∃ x, x = sqN a 5 := ⟨_, rfl⟩
      obtain ⟨y, hy⟩ : ∃ y, y = invN a 5 := ⟨_, rfl⟩
      rw [← hx] at q0 q1
      rw [← hx, ← hy]
      have HX : Hid (sqN a (5 + 1) = gm x x) := by rw [hx]; exact Lib.hid rfl
      have HY : Hid (invN a (5 + 1) = gm y x) := by rw [hy, hx]; exact Lib.hid (by rw [invN]; first | exact if_pos (by decide) | exact if_neg (by decide))
      clear hx hy
      go_wp2_with (go_at_call 37; refine (l3Mul_any _ _ _ q0 q1).mono ?_; rintro e w' ⟨rfl, rfl⟩)
      go_round
      case rel => exact ⟨5 + 1, 3, by omega, rfl, by rw [HX.out], by rw [HY.out], rfl⟩
      case measure => simp [intOf]
    · obtain rfl : n = 3 := by rw [hn]; rfl
      clear hn hk
      have hb : bits .and .i64 3 1 = 1 := by kernel_rfl
      obtain ⟨q0, q1⟩ := sqN_range ha0 ha1 6
      obtain ⟨x, hx⟩ : ∃ x, x = sqN a 6 := ⟨_, rfl⟩
      obtain ⟨y, hy⟩ : ∃ y, y = invN a 6 := ⟨_, rfl⟩
      rw [← hx] at q0 q1
      rw [← hx, ← hy]
      have HX : Hid (sqN a (6 + 1) = gm x x) := by rw [hx]; exact Lib.hid rfl
      have HY : Hid (invN a (6 + 1) = gm y x) := by rw [hy, hx]; exact Lib.hid (by rw [invN]; first | exact if_pos (by decide) | exact if_neg (by decide))
      clear hx hy
      go_wp2_with (go_at_call 37; refine (l3Mul_any _ _ _ q0 q1).mono ?_; rintro e w' ⟨rfl, rfl⟩)
      go_round
      case rel => exact ⟨6 + 1, 1, by omega, rfl, by rw [HX.out], by rw [HY.out], rfl⟩
      case measure => simp [intOf]
    · obtain rfl : n = 1 := by rw [hn]; rfl
      clear hn hk
      have hb : bits .and .i64 1 1 = 1 := by kernel_rfl
      obtain ⟨q0, q1⟩ := sqN_range ha0 ha1 7
      obtain ⟨x, hx⟩ : ∃ x, x = sqN a 7 := ⟨_, rfl⟩
      obtain ⟨y, hy⟩ : ∃ y, y = invN a 7 := ⟨_, rfl⟩
      rw [← hx] at q0 q1
      rw [← hx, ← hy]
      have HX : Hid (sqN a (7 + 1) = gm x x) := by rw [hx]; exact Lib.hid rfl
      have HY : Hid (invN a (7 + 1) = gm y x) := by rw [hy, hx]; exact Lib.hid (by rw [invN]; first | exact if_pos (by decide) | exact if_neg (by decide))
      clear hx hy
      go_wp2_with (go_at_call 37; refine (l3Mul_any _ _ _ q0 q1).mono ?_; rintro e w' ⟨rfl, rfl⟩)
      go_round
      case rel => exact ⟨7 + 1, 0, by omega, rfl, by rw [HX.out], by rw [HY.out], rfl⟩
      case measure => simp [intOf]
    · obtain rfl : n = 0 := by rw [hn]; rfl
      clear hn hk
      have HE : Hid (invN a 8 = ginvS a) := Lib.hid (ginvS_def a)
      obtain ⟨y, hy⟩ : ∃ y, y = invN a 8 := ⟨_, rfl⟩
      rw [← hy] at HE
      rw [← hy]
      clear hy
      go_wp2
      go_ret
      exact ⟨ret_int HE.out, rfl⟩

set_option maxHeartbeats 400000 in
theorem l3Turn_any (x : Int) (k : Int) (w : World) (hx0 : 0 ≤ x) (hx1 : x ≤ 255) (hk0 : 1 ≤ k) (hk1 : k ≤ 4) :
    Calls Try.prog 54 #[.int .u8 x, .int .u64 k] w fun e w' => e = .returned (.int .u8 (rotl8 x k)) ∧ w = w' := by
  rcases (show k = 1 ∨ k = 2 ∨ k = 3 ∨ k = 4 by omega) with rfl | rfl | rfl | rfl
  all_goals
    go_enter Try.func54, Try.ntmps54
    go_wp2
    go_ret
    exact ⟨ret_int rfl, rfl⟩

set_option maxRecDepth 100000 in
set_option maxHeartbeats 400000 in
theorem l3Sub_any (a : Int) (w : World) (ha0 : 0 ≤ a) (ha1 : a ≤ 255) :
    Calls Try.prog 36 #[.int .u8 a] w fun e w' => e = .returned (.int .u8 (sbS a)) ∧ w = w' := by
  have hr := invN_range a 8
  rw [ginvS_def] at hr
  obtain ⟨h0, h1⟩ := hr
  have HE : Hid (sbS a = bits .xor .u8 (bits .xor .u8 (bits .xor .u8 (bits .xor .u8 (bits .xor .u8 (ginvS a) (rotl8 (ginvS a) 1)) (rotl8 (ginvS a) 2)) (rotl8 (ginvS a) 3)) (rotl8 (ginvS a) 4)) 99) := Lib.hid rfl
  go_enter Try.func36, Try.ntmps36
  go_wp2_with (first | (go_at_call 53; refine (l3Inverse_any _ _ ha0 ha1).mono ?_; rintro e w' ⟨rfl, rfl⟩) | (go_at_call 54; refine (l3Turn_any _ _ _ h0 h1 (by omega) (by omega)).mono ?_; rintro e w' ⟨rfl, rfl⟩))
  go_ret
  exact ⟨ret_int HE.out.symm, rfl⟩
end Go.Proofs.Ytefhhhdcgonmgaa.Hb
namespace Go.Proofs.Ytefhhhdcgonmgaa.Hb
open Go.RowKit
set_option linter.unusedVariables false

def xorL (xs ys : List Int) (n : Nat) : List Int := fillTo n (fun i => bits .xor .u8 (xs.getD i 0) (ys.getD i 0)) n

set_option maxRecDepth 100000 in
set_option maxHeartbeats 400000 in
theorem l3Xor_any (w : World) (ga oa ca n gb ob m cb : Nat) (xs ys : List Int)
    (hx : ∀ i, i < n → w.cell? ⟨ga, oa + i, none⟩ = some (.int .u8 (xs.getD i 0))) (hy : ∀ i, i < n → w.cell? ⟨gb, ob + i, none⟩ = some (.int .u8 (ys.getD i 0))) (hnm : n ≤ m) (hn : m ≤ 140737488351232) :
    Calls Try.prog 38 #[.slice (some ⟨ga, oa, none⟩) n ca, .slice (some ⟨gb, ob, none⟩) m cb] w fun e w' => e = .returned (.slice (some ⟨w.heap.size, 0, none⟩) n n) ∧ OwnS w.heap.size w' (.slice (some ⟨w.heap.size, 0, none⟩) n n) (u8s (xorL xs ys n)) ∧ Below w.heap.size w w' := by
  obtain ⟨cs, hmk, hcs⟩ := make_bytes w n (by omega)
  have hown := OwnS.make w n cs 5 hcs
  clear hcs
  obtain ⟨f, hf⟩ : ∃ f : Nat → Int, f = (fun i => bits .xor .u8 (xs.getD i 0) (ys.getD i 0)) := ⟨_, rfl⟩
  have HF : ∀ i, Hid (f i = bits .xor .u8 (xs.getD i 0) (ys.getD i 0)) := fun i => Lib.hid (by rw [hf])
  rw [xorL, ← hf]
  clear hf
  have HX := Lib.hid hx
  have HY := Lib.hid hy
  clear hx hy
  go_enter Try.func38, Try.ntmps38
  go_wp2
  go_loopg [12, 6] n (fun q v6 v2 wr => ∃ k : Nat, q + k = n ∧ v6 = .int .i64 (k : Int) ∧ OwnS w.heap.size wr (.slice (some ⟨w.heap.size, 0, none⟩) n n) (u8s (fillTo n f k)) ∧ Below w.heap.size w wr)
  case atStart => exact ⟨0, by omega, rfl, hown, (Below.refl _ _).alloc (Nat.le_refl _) _⟩
  case round =>
    clear hown
    obtain ⟨k, hqk, rfl, ho, hb⟩ := hrel
    by_cases hlt : k < n
    · have hf := ho.free (i := k) (by rw [u8s_length, fillTo_length]; omega)
      have hc := ho.cell (u8s_at (xs := fillTo n f k) (i := k) (by rw [fillTo_length]; omega))
      have hcx := cell_below (HX.out k hlt) hb (World.block_lt_of_cell? w _ (HX.out k hlt))
      have hcy := cell_below (HY.out k hlt) hb (World.block_lt_of_cell? w _ (HY.out k hlt))
      obtain ⟨x, hx⟩ : ∃ x, x = xs.getD k 0 := ⟨_, rfl⟩
      obtain ⟨y, hy⟩ : ∃ y, y = ys.getD k 0 := ⟨_, rfl⟩
      have E : Hid (f k = bits .xor .u8 x y) := by rw [hx, hy]; exact HF k
      rw [← hx] at hcx
      rw [← hy] at hcy
      have hd : decide ((k : Int) < n) = true := by simp; omega
      have hkm : (k : Int) < (m : Int) := by omega
      clear hx hy
      go_wp2
      go_region
      go_wp2
      go_roundg (n - 1 - k)
      case measure => omega
      case rel =>
        refine ⟨k + 1, by omega, by go_num, ?_, (hb.setCell (Nat.le_refl _) _).drew⟩
        have h2 := ho.set (i := k) (by rw [u8s_length, fillTo_length]; omega) (.int .u8 (f k))
        rw [u8s_set, fillTo_step, E.out] at h2
        exact h2.drew
    · obtain rfl : k = n := by omega
      go_wp2
      go_ret
      exact ⟨rfl, ho, hb⟩
end Go.Proofs.Ytefhhhdcgonmgaa.Hb
namespace Go.Proofs.Ytefhhhdcgonmgaa.Hb
open Go.RowKit
set_option linter.unusedVariables false

/-- The table of SubByte, as far as it is filled. -/
def boxTo : Nat → List Int
  | 0 => List.replicate 256 0
  | k + 1 => (boxTo k).set k (sb k)
theorem boxTo_length (k : Nat) : (boxTo k).length = 256 := by
  induction k with
  | zero => rw [boxTo, List.length_replicate]
  | succ k ih => rw [boxTo, List.length_set, ih]
theorem boxTo_get (k : Nat) (hk : k ≤ 256) : ∀ i, i < k → (boxTo k).getD i 0 = sb i := by
  induction k with
  | zero => intro i hi; omega
  | succ k ih =>
    intro i hi
    rw [boxTo, List.getD_eq_getElem?_getD, List.getElem?_set]
    by_cases e : k = i
    · subst e
      simp [boxTo_length, show k < 256 by omega]
    · rw [if_neg e, ← List.getD_eq_getElem?_getD]
      exact ih (by omega) i (by omega)

theorem zeros53 : Try.zeroCells53.toList = u8s (List.replicate 512 0) := by kernel_rfl

set_option maxRecDepth 100000 in
set_option maxHeartbeats 400000 in
theorem newBox_any (w : World) :
    Calls Try.prog 27 #[] w fun e w' => e = .returned (.pointer (some ⟨w.heap.size, 0, none⟩)) ∧ (∃ bk, Row w' w.heap.size (u8s (boxTo 256 ++ bk))) ∧ Below w.heap.size w w' := by
  have hrow := Row.new w Try.zeroCells53 53
  rw [zeros53] at hrow
  go_enter Try.func27, Try.ntmps27
  go_wp2
  go_loopw [6] (fun v wr => ∃ (k : Nat) (bk : List Int), k ≤ 256 ∧ v = .int .i64 k ∧ Row wr w.heap.size (u8s (boxTo k ++ bk)) ∧ Hid (bk.length = 256) ∧ Below w.heap.size w wr) (fun v _ => 256 - (intOf v).toNat)
  case atStart => exact ⟨0, List.replicate 256 0, by omega, rfl, hrow, Lib.hid (by simp), (Below.refl _ _).alloc (Nat.le_refl _) _⟩
  case round =>
    obtain ⟨k, bk, hk, rfl, hr, hbk, hbl⟩ := hrel
    by_cases hlt : k < 256
    · obtain ⟨s, hs⟩ : ∃ s, s = sb k := ⟨_, rfl⟩
      have hs0 := sb_range k
      rw [← hs] at hs0
      obtain ⟨hs1, hs2⟩ := hs0
      have HS : Hid (sb k = s) := Lib.hid hs.symm
      clear hs
      have hL : (u8s (boxTo k ++ bk)).length = 512 := by rw [u8s_length, List.length_append, boxTo_length, hbk.out]
      have hL2 : (boxTo k ++ bk).length = 512 := by rw [List.length_append, boxTo_length, hbk.out]
      have hf1 := hr.free (i := k) (by omega)
      have hf2 := hr.free (i := 256 + s.toNat) (by omega)
      have hc1 := hr.cell (u8s_at (xs := boxTo k ++ bk) (i := k) (by omega))
      have hc2 := hr.cell (u8s_at (xs := boxTo k ++ bk) (i := 256 + s.toNat) (by omega))
      have HL := Lib.hid hL
      clear hL hL2
      go_wp2_with (go_at_call 44; refine (subByte_any _ _ (by omega) (by omega)).mono ?_; rintro e w' ⟨rfl, rfl⟩; rw [HS.out])
      go_region
      go_wp2
      go_roundw
      case rel =>
        refine ⟨k + 1, bk.set s.toNat k, by omega, by go_num, ?_, Lib.hid (by simp [hbk.out]), ?_⟩
        · have h1 := hr.set (i := k) (by rw [HL.out]; omega) (.int .u8 s)
          have h2 := h1.set (i := 256 + s.toNat) (by rw [List.length_set, HL.out]; omega) (.int .u8 k)
          rw [u8s_set, u8s_set] at h2
          have e : ((boxTo k ++ bk).set k s).set (256 + s.toNat) (k : Int) = boxTo (k + 1) ++ bk.set s.toNat k := by
            rw [List.set_append_left _ _ (by rw [boxTo_length]; omega), List.set_append_right _ _ (by rw [List.length_set, boxTo_length]; omega), List.length_set, boxTo_length, boxTo, HS.out]
            congr 2
            omega
          rw [e] at h2
          exact h2.drew
        · exact ((hbl.setCell (by simp) _).setCell (by simp) _).drew
      case measure => simp [intOf]; omega
    · obtain rfl : k = 256 := by omega
      go_wp2
      go_ret
      exact ⟨rfl, ⟨bk, hr⟩, hbl⟩
end Go.Proofs.Ytefhhhdcgonmgaa.Hb
/-! Polynomials of a linear map on bit vectors: they commute. With it, the product of the bytes' field is a product. -/
namespace Go.Proofs.Ytefhhhdcgonmgaa.Hb
open Go.RowKit

/-- The sum of those of a vector's images under powers of a map that a list of bits chooses. -/
def pol {n : Nat} (X : BitVec n → BitVec n) : List Bool → BitVec n → BitVec n
  | [], _ => 0#n
  | b :: r, v => (if b then v else 0#n) ^^^ pol X r (X v)
def Lin {n : Nat} (X : BitVec n → BitVec n) : Prop := ∀ u v, X (u ^^^ v) = X u ^^^ X v
theorem Lin.zero {n : Nat} {X : BitVec n → BitVec n} (h : Lin X) : X 0#n = 0#n := by
  have := h 0#n 0#n
  simpa using this
theorem pol_add {n : Nat} {X : BitVec n → BitVec n} (h : Lin X) : ∀ r, Lin (pol X r)
  | [], u, v => by simp [pol]
  | b :: r, u, v => by
    simp only [pol, h u v, pol_add h r (X u) (X v)]
    cases b
    · simp
    · simp only [if_true]
      ac_rfl
theorem pol_X {n : Nat} {X : BitVec n → BitVec n} (h : Lin X) : ∀ r v, pol X r (X v) = X (pol X r v)
  | [], v => by simp [pol, h.zero]
  | b :: r, v => by
    simp only [pol, pol_X h r (X v)]
    cases b
    · simp
    · simp only [if_true]
      rw [h]
theorem pol_comm {n : Nat} {X : BitVec n → BitVec n} (h : Lin X) : ∀ r s v, pol X r (pol X s v) = pol X s (pol X r v)
  | [], s, v => by simp [pol, (pol_add h s).zero]
  | b :: r, s, v => by
    simp only [pol]
    rw [(pol_add h s), ← pol_comm h r s (X v), pol_X h s v]
    cases b
    · simp [(pol_add h s).zero]
    · simp
/-- Products of vectors that are sums of a unit's images. -/
theorem pol_swap {n : Nat} {X : BitVec n → BitVec n} (h : Lin X) {e a b : BitVec n} {ra rb : List Bool} (ha : pol X ra e = a) (hb : pol X rb e = b) : pol X rb a = pol X ra b := by
  rw [← ha, ← hb, pol_comm h]

def X8 (v : BitVec 8) : BitVec 8 := (v <<< 1) ^^^ (if v.getLsbD 7 then 27#8 else 0#8)
theorem X8_lin : Lin X8 := by
  intro u v
  simp only [X8, BitVec.shiftLeft_xor_distrib, BitVec.getLsbD_xor]
  have e : ∀ x y c : BitVec 8, x ^^^ c ^^^ (y ^^^ c) = x ^^^ y := by
    intro x y c
    have : x ^^^ c ^^^ (y ^^^ c) = x ^^^ y ^^^ (c ^^^ c) := by ac_rfl
    rw [this, BitVec.xor_self, BitVec.xor_zero]
  cases u.getLsbD 7 <;> cases v.getLsbD 7
  · simp
  · simp
    ac_rfl
  · simp
    ac_rfl
  · simp [e]
def bits8 : Nat → BitVec 8 → List Bool
  | 0, _ => []
  | n + 1, b => b.getLsbD 0 :: bits8 n (b >>> 1)
theorem bits8_zero (n : Nat) : ∀ v, pol X8 (bits8 n 0#8) v = 0#8 := by
  induction n with
  | zero => intro v; rfl
  | succ n ih => intro v; simp [bits8, pol, ih]
def mul8 (a b : BitVec 8) : BitVec 8 := pol X8 (bits8 8 b) a
theorem unit8 : ∀ b : BitVec 8, pol X8 (bits8 8 b) 1#8 = b := by decide +kernel
theorem mul8_comm (a b : BitVec 8) : mul8 a b = mul8 b a := pol_swap X8_lin (unit8 a) (unit8 b)
theorem mul8_assoc (a b c : BitVec 8) : mul8 (mul8 a b) c = mul8 a (mul8 b c) := by
  rw [mul8_comm a (mul8 b c), mul8_comm a b]
  exact pol_comm X8_lin _ _ _
theorem mul8_one (a : BitVec 8) : mul8 a 1#8 = a := by
  rw [mul8_comm]
  exact unit8 a

theorem xt_v : ∀ v : BitVec 8, xt (v.toNat : Int) = ((X8 v).toNat : Int) := by decide +kernel
theorem low_v : ∀ b : BitVec 8, (bits .and .u8 (b.toNat : Int) 1 = 1) ↔ b.getLsbD 0 = true := by decide +kernel
theorem half_v : ∀ b : BitVec 8, (b.toNat : Int) / (2 : Int) = ((b >>> 1).toNat : Int) := by decide +kernel
theorem xor_v (u v : BitVec 8) : bits .xor .u8 (u.toNat : Int) (v.toNat : Int) = ((u ^^^ v).toNat : Int) := by
  show IntKind.u8.wrap ((BitVec.ofInt 8 (u.toNat : Int) ^^^ BitVec.ofInt 8 (v.toNat : Int)).toNat : Int) = _
  rw [BitVec.ofInt_natCast, BitVec.ofInt_natCast, BitVec.ofNat_toNat, BitVec.ofNat_toNat, BitVec.setWidth_eq, BitVec.setWidth_eq, IntKind.wrap_u8]
  have := (u ^^^ v).isLt
  omega
theorem gmN_v : ∀ (n : Nat) (a b o : BitVec 8), gmN n (a.toNat : Int) (b.toNat : Int) (o.toNat : Int) = ((o ^^^ pol X8 (bits8 n b) a).toNat : Int)
  | 0, a, b, o => by simp [gmN, bits8, pol]
  | n + 1, a, b, o => by
    by_cases hb : b = 0#8
    · subst hb
      rw [bits8_zero]
      simp [gmN]
    · have hb' : (b.toNat : Int) ≠ 0 := by
        intro e
        apply hb
        apply BitVec.eq_of_toNat_eq
        simpa using e
      rw [gmN_step n _ _ _ hb', xt_v, half_v]
      simp only [bits8, pol]
      by_cases hl : b.getLsbD 0 = true
      · rw [if_pos ((low_v b).2 hl), xor_v, gmN_v n, if_pos hl]
        congr 2
        ac_rfl
      · rw [if_neg (fun h => hl ((low_v b).1 h)), gmN_v n, if_neg hl]
        simp
theorem gm_v (a b : BitVec 8) : gm (a.toNat : Int) (b.toNat : Int) = ((mul8 a b).toNat : Int) := by
  have h := gmN_v 8 a b 0#8
  simpa [gm, mul8] using h
def pw (a : BitVec 8) : Nat → BitVec 8
  | 0 => 1#8
  | n + 1 => mul8 (pw a n) a
theorem pw_add (a : BitVec 8) (m n : Nat) : mul8 (pw a m) (pw a n) = pw a (m + n) := by
  induction n with
  | zero => exact mul8_one _
  | succ n ih => rw [pw, ← mul8_assoc, ih]; rfl
theorem gpow_v (a : BitVec 8) (n : Nat) : gpow (a.toNat : Int) n = ((pw a n).toNat : Int) := by
  induction n with
  | zero => rfl
  | succ n ih => rw [gpow, ih, gm_v, pw]
theorem sqN_v (a : BitVec 8) (k : Nat) : sqN (a.toNat : Int) k = ((pw a (2 ^ k)).toNat : Int) := by
  induction k with
  | zero =>
    show (a.toNat : Int) = ((mul8 1#8 a).toNat : Int)
    rw [mul8_comm, mul8_one]
  | succ k ih => rw [sqN, ih, gm_v, pw_add, Nat.pow_succ, Nat.mul_two]
theorem invN_v (a : BitVec 8) (k : Nat) : invN (a.toNat : Int) k = ((pw a (254 % 2 ^ k)).toNat : Int) := by
  induction k with
  | zero => simp [invN, pw, Nat.mod_one]
  | succ k ih =>
    rw [invN, Nat.mod_pow_succ]
    split
    · rename_i h
      rw [ih, sqN_v, gm_v, pw_add, h, Nat.mul_one]
    · rename_i h
      rw [ih, show 254 / 2 ^ k % 2 = 0 by omega, Nat.mul_zero, Nat.add_zero]
theorem ginvS_eq (a : Int) (h0 : 0 ≤ a) (h1 : a ≤ 255) : ginvS a = ginv a := by
  obtain ⟨i, rfl⟩ : ∃ i : Nat, a = i := ⟨a.toNat, by omega⟩
  have hi : i < 256 := by omega
  have e : (i : Int) = ((BitVec.ofNat 8 i).toNat : Int) := by
    rw [BitVec.toNat_ofNat]
    omega
  rw [e, ← ginvS_def, ← ginv_def, invN_v, gpow_v]
theorem xor8_comm (a b : Int) : bits .xor .u8 a b = bits .xor .u8 b a := by
  show IntKind.u8.wrap ((BitVec.ofInt 8 a ^^^ BitVec.ofInt 8 b).toNat : Int) = IntKind.u8.wrap ((BitVec.ofInt 8 b ^^^ BitVec.ofInt 8 a).toNat : Int)
  rw [BitVec.xor_comm]
theorem xor8_assoc (a b c : Int) : bits .xor .u8 (bits .xor .u8 a b) c = bits .xor .u8 a (bits .xor .u8 b c) := by
  have h : ∀ x y : Int, BitVec.ofInt 8 (bits .xor .u8 x y) = BitVec.ofInt 8 x ^^^ BitVec.ofInt 8 y := by
    intro x y
    show BitVec.ofInt 8 (IntKind.u8.wrap ((BitVec.ofInt 8 x ^^^ BitVec.ofInt 8 y).toNat : Int)) = _
    rw [IntKind.wrap_u8]
    have := (BitVec.ofInt 8 x ^^^ BitVec.ofInt 8 y).isLt
    rw [show (((BitVec.ofInt 8 x ^^^ BitVec.ofInt 8 y).toNat : Int) % 256) = ((BitVec.ofInt 8 x ^^^ BitVec.ofInt 8 y).toNat : Int) by omega, BitVec.ofInt_natCast, BitVec.ofNat_toNat, BitVec.setWidth_eq]
  show IntKind.u8.wrap ((BitVec.ofInt 8 (bits .xor .u8 a b) ^^^ BitVec.ofInt 8 c).toNat : Int) = IntKind.u8.wrap ((BitVec.ofInt 8 a ^^^ BitVec.ofInt 8 (bits .xor .u8 b c)).toNat : Int)
  rw [h, h, BitVec.xor_assoc]
theorem sbS_eq (a : Int) (h0 : 0 ≤ a) (h1 : a ≤ 255) : sbS a = sb a := by
  rw [sbS, sb, ginvS_eq a h0 h1]
  simp only [sbN]
  rw [xor8_comm _ 99, ← xor8_assoc, ← xor8_assoc, ← xor8_assoc, ← xor8_assoc, xor8_comm 99]
  rfl
theorem l3Sub_sb (a : Int) (w : World) (ha0 : 0 ≤ a) (ha1 : a ≤ 255) :
    Calls Try.prog 36 #[.int .u8 a] w fun e w' => e = .returned (.int .u8 (sb a)) ∧ w = w' := by
  rw [← sbS_eq a ha0 ha1]
  exact l3Sub_any a w ha0 ha1
end Go.Proofs.Ytefhhhdcgonmgaa.Hb
namespace Go.Proofs.Ytefhhhdcgonmgaa.Hb
open Go.RowKit
set_option linter.unusedVariables false

def sbF (i : Nat) : Int := sb i
def tabL : List Int := fillTo 256 sbF 256

set_option maxRecDepth 100000 in
set_option maxHeartbeats 400000 in
theorem l3Table_any (w : World) :
    Calls Try.prog 20 #[] w fun e w' => e = .returned (.slice (some ⟨w.heap.size, 0, none⟩) 256 256) ∧ OwnS w.heap.size w' (.slice (some ⟨w.heap.size, 0, none⟩) 256 256) (u8s tabL) ∧ Below w.heap.size w w' := by
  obtain ⟨cs, hmk, hcs⟩ := make_bytes w 256 (by omega)
  have hown := OwnS.make w 256 cs 5 hcs
  have hmk2 : (Instr.makeSlice 32 (.int .i64 256) (.int .i64 256)).run Try.prog w = .ok (.slice (some ⟨w.heap.size, 0, none⟩) 256 256) (w.alloc (.cells cs 5)) := hmk
  clear hmk hcs
  go_enter Try.func20, Try.ntmps20
  go_wp2
  go_loopg [6, 2] 256 (fun q v6 v2 wr => ∃ k : Nat, q + k = 256 ∧ v6 = .int .i64 (k : Int) ∧ OwnS w.heap.size wr (.slice (some ⟨w.heap.size, 0, none⟩) 256 256) (u8s (fillTo 256 sbF k)) ∧ Below w.heap.size w wr)
  case atStart => exact ⟨0, by omega, rfl, hown, (Below.refl _ _).alloc (Nat.le_refl _) _⟩
  case round =>
    clear hown
    obtain ⟨k, hqk, rfl, ho, hb⟩ := hrel
    by_cases hlt : k < 256
    · have hf := ho.free (i := k) (by rw [u8s_length, fillTo_length]; omega)
      have hc := ho.cell (u8s_at (xs := fillTo 256 sbF k) (i := k) (by rw [fillTo_length]; omega))
      have hd : decide ((k : Int) < 256) = true := by simp; omega
      go_wp2_with (go_at_call 36; refine (l3Sub_sb _ _ (by omega) (by omega)).mono ?_; rintro e w' ⟨rfl, rfl⟩)
      go_roundg (255 - k)
      case measure => omega
      case rel =>
        refine ⟨k + 1, by omega, by go_num, ?_, hb.setCell (Nat.le_refl _) _⟩
        have h2 := ho.set (i := k) (by rw [u8s_length, fillTo_length]; omega) (.int .u8 (sb k))
        rw [u8s_set, show sb (k : Int) = sbF k from rfl, fillTo_step] at h2
        exact h2
    · obtain rfl : k = 256 := by omega
      go_wp2
      go_ret
      exact ⟨rfl, ho, hb⟩
end Go.Proofs.Ytefhhhdcgonmgaa.Hb
namespace Go.Proofs.Ytefhhhdcgonmgaa.Hb
open Go.RowKit
set_option linter.unusedVariables false

/-- append(v, x) of one byte, v of the call's own or nil, as a region that draws its order has it. -/
theorem push_step {base : Nat} {w : World} {v : Value} {L : List Int} (ho : OwnN base w v (u8s L)) (hbase : base ≤ w.heap.size) (x : Int) (hlen : L.length + 1 ≤ 140737488351232) :
    ∃ v' w2, (Builtin.append_ #[32, 32] 32 #[v, .slice (some ⟨w.heap.size, 0, none⟩) 1 1]).run Try.prog (w.alloc (.cells #[.int .u8 x] 5)).drew = .ok v' w2 ∧
      OwnS base w2 v' (u8s (L ++ [x])) ∧ Below base w w2 := by
  obtain ⟨i0, hi, hz0, hz1, hz2⟩ := info_parts A_info8
  have hW : Below w.heap.size w (w.alloc (.cells #[.int .u8 x] 5)).drew := ((Below.refl _ _).alloc (Nat.le_refl _) _).drew
  have ho' := ho.below hW
  obtain ⟨v', w2, hrun, hown, hgr, hnew⟩ := append_many 32 32 5 i0 (.int .u8 0) 1 Try.underlying32 hi hz0 hz1 hz2 rfl ho' (Nat.le_trans hbase hW.size) ⟨w.heap.size, 0, none⟩ 1 1 [.int .u8 x] rfl (by omega)
    (fun j u hj => by
      match j, hj with
      | 0, hj =>
        simp at hj
        subst hj
        rw [add_none]
        exact (Row.new w #[.int .u8 x] 5).cell rfl)
    (by simp [Value.oneCell']) (by simp only [u8s_length, maxLen]; omega) (by simp only [u8s_length]; omega)
  refine ⟨v', w2, hrun, by simpa [u8s] using hown, (hW.mono hbase).trans ⟨hgr.os, hgr.tape, hgr.output, hgr.size, fun k hk => hgr.block k (by have := hW.size; omega) ?_⟩⟩
  intro e
  rcases ho with ⟨rfl, _⟩ | ho
  · simp [Value.ownBlock] at e
  · have := (ho.lt k e.symm).1
    omega

/-- A byte of a text, by an index that is a number. -/
theorem run_idx (s : ByteArray) (n : Nat) (hn : n < s.size) (i : Int) (hi : i = (n : Int)) (w : World) :
    (Instr.index 9 (.string s) (.int .i64 i)).run Try.prog w = .ok (.int .u8 ((byt s).getD n 0)) w := by
  subst hi
  rw [run_index_string w 9 s .i64 n Try.underlying9]
  simp [byt, List.getD_eq_getElem?_getD, hn]
  rfl

theorem byt_extract (s : ByteArray) (a b : Nat) : byt (s.extract a b) = ((byt s).drop a).take (b - a) := by
  rw [byt, Lib.extract_data, byt, List.map_take, List.map_drop]
theorem size_extract (s : ByteArray) (a b : Nat) (hb : b ≤ s.size) : (s.extract a b).size = b - a := by
  rw [← byt_length, byt_extract, List.length_take, List.length_drop, byt_length]
  omega
end Go.Proofs.Ytefhhhdcgonmgaa.Hb
/-! The field of 2 to 128: its product, as bits, and the hash of blocks. -/
namespace Go.Proofs.Ytefhhhdcgonmgaa.Hb
open Go.RowKit
set_option linter.unusedVariables false

def R128 : BitVec 128 := 0xe1000000000000000000000000000000#128
def X128 (v : BitVec 128) : BitVec 128 := (v >>> 1) ^^^ (if v.getLsbD 0 then R128 else 0#128)
theorem X128_lin : Lin X128 := by
  intro u v
  simp only [X128, BitVec.ushiftRight_xor_distrib, BitVec.getLsbD_xor]
  have e : ∀ x y c : BitVec 128, x ^^^ c ^^^ (y ^^^ c) = x ^^^ y := by
    intro x y c
    have : x ^^^ c ^^^ (y ^^^ c) = x ^^^ y ^^^ (c ^^^ c) := by ac_rfl
    rw [this, BitVec.xor_self, BitVec.xor_zero]
  cases u.getLsbD 0 <;> cases v.getLsbD 0
  · simp
  · simp
    ac_rfl
  · simp
    ac_rfl
  · simp [e]
def downs (a : BitVec 128) : Nat → List Bool
  | 0 => []
  | n + 1 => a.getLsbD n :: downs a n
def mulV (a b : BitVec 128) : BitVec 128 := pol X128 (downs a 128) b
theorem X128_two (n : Nat) : X128 (BitVec.twoPow 128 (n + 1)) = BitVec.twoPow 128 n ∨ 127 ≤ n := by
  by_cases h : 127 ≤ n
  · exact .inr h
  · refine .inl ?_
    have h0 : (BitVec.twoPow 128 (n + 1)).getLsbD 0 = false := by simp
    rw [X128, h0]
    apply BitVec.eq_of_getLsbD_eq
    intro i hi
    simp only [Bool.false_eq_true, if_false, BitVec.xor_zero, BitVec.getLsbD_ushiftRight, BitVec.getLsbD_twoPow]
    by_cases e : n = i
    · subst e
      have e2 : n + 1 = 1 + n := by omega
      have e3 : n + 1 < 128 := by omega
      have e4 : n < 128 := by omega
      simp [e2.symm, e3, e4]
    · have e2 : ¬ (n + 1 = 1 + i) := by omega
      simp [e, e2]
theorem downs_unit (a : BitVec 128) (n : Nat) (hn : n < 128) : ∀ i, (pol X128 (downs a (n + 1)) (BitVec.twoPow 128 n)).getLsbD i = (decide (i ≤ n) && a.getLsbD i) := by
  induction n with
  | zero =>
    intro i
    simp only [downs, pol, BitVec.xor_zero]
    by_cases e : i = 0
    · subst e
      cases a.getLsbD 0 <;> simp
    · have e2 : ¬ (0 = i) := fun h => e h.symm
      cases a.getLsbD 0 <;> simp [e, e2, BitVec.getLsbD_twoPow]
  | succ n ih =>
    intro i
    rw [downs, pol, BitVec.getLsbD_xor, (X128_two n).resolve_right (by omega), ih (by omega)]
    by_cases e : i = n + 1
    · subst e
      cases a.getLsbD (n + 1) <;> simp [hn]
    · have : (if a.getLsbD (n + 1) = true then BitVec.twoPow 128 (n + 1) else 0#128).getLsbD i = false := by
        split
        · simp [BitVec.getLsbD_twoPow]
          omega
        · simp
      rw [this, Bool.false_xor]
      congr 1
      simp
      omega
theorem unitV (a : BitVec 128) : pol X128 (downs a 128) (BitVec.twoPow 128 127) = a := by
  apply BitVec.eq_of_getLsbD_eq
  intro i hi
  rw [downs_unit a 127 (by omega)]
  simp
  omega
theorem mulV_comm (a b : BitVec 128) : mulV a b = mulV b a := pol_swap X128_lin (unitV b) (unitV a)

/-- The two words of a vector. -/
def hiV (v : BitVec 128) : BitVec 64 := v.extractLsb' 64 64
def loV (v : BitVec 128) : BitVec 64 := v.extractLsb' 0 64
theorem hiV_xor (u v : BitVec 128) : hiV (u ^^^ v) = hiV u ^^^ hiV v := by simp [hiV, BitVec.extractLsb'_xor]
theorem loV_xor (u v : BitVec 128) : loV (u ^^^ v) = loV u ^^^ loV v := by simp [loV, BitVec.extractLsb'_xor]
theorem hiV_get (v : BitVec 128) (i : Nat) (hi : i < 64) : (hiV v).getLsbD i = v.getLsbD (64 + i) := by simp [hiV, hi]
theorem loV_get (v : BitVec 128) (i : Nat) (hi : i < 64) : (loV v).getLsbD i = v.getLsbD i := by simp [loV, hi]
def joinV (h l : BitVec 64) : BitVec 128 := h ++ l
theorem hiV_join (h l : BitVec 64) : hiV (joinV h l) = h := by
  apply BitVec.eq_of_getLsbD_eq
  intro i hi
  rw [hiV_get _ i hi, joinV, BitVec.getLsbD_append]
  simp
theorem loV_join (h l : BitVec 64) : loV (joinV h l) = l := by
  apply BitVec.eq_of_getLsbD_eq
  intro i hi
  rw [loV_get _ i hi, joinV, BitVec.getLsbD_append]
  simp [hi]
theorem joinV_xor (a b c d : BitVec 64) : joinV a b ^^^ joinV c d = joinV (a ^^^ c) (b ^^^ d) := by
  apply BitVec.eq_of_getLsbD_eq
  intro i hi
  simp only [joinV, BitVec.getLsbD_xor, BitVec.getLsbD_append]
  split <;> rfl
theorem joinV_self (v : BitVec 128) : joinV (hiV v) (loV v) = v := by
  apply BitVec.eq_of_getLsbD_eq
  intro i hi
  rw [joinV, BitVec.getLsbD_append]
  split
  · rw [loV_get _ i (by omega)]
  · rw [hiV_get _ _ (by omega)]
    congr 1
    omega
theorem hiV_X (v : BitVec 128) : hiV (X128 v) = (hiV v >>> 1) ^^^ (if (loV v).getLsbD 0 then 0xe100000000000000#64 else 0#64) := by
  rw [X128, hiV_xor, loV_get v 0 (by omega)]
  congr 1
  · apply BitVec.eq_of_getLsbD_eq
    intro i hi
    rw [hiV_get _ i hi]
    simp only [BitVec.getLsbD_ushiftRight]
    by_cases h : 1 + i < 64
    · rw [hiV_get _ _ h]
      congr 1
      omega
    · rw [BitVec.getLsbD_of_ge _ _ (by omega), BitVec.getLsbD_of_ge _ _ (by omega)]
  · split <;> rfl
theorem loV_X (v : BitVec 128) : loV (X128 v) = (loV v >>> 1) ||| (hiV v <<< 63) := by
  have h0 : loV (if v.getLsbD 0 then R128 else 0#128) = 0#64 := by split <;> rfl
  rw [X128, loV_xor, h0, BitVec.xor_zero]
  apply BitVec.eq_of_getLsbD_eq
  intro i hi
  rw [loV_get _ i hi]
  simp only [BitVec.getLsbD_ushiftRight, BitVec.getLsbD_or, BitVec.getLsbD_shiftLeft]
  by_cases h : i < 63
  · simp [h, hi, loV_get v (1 + i) (by omega)]
  · obtain rfl : i = 63 := by omega
    rw [BitVec.getLsbD_of_ge (loV v) _ (by omega)]
    have := hiV_get v 0 (by omega)
    simpa using this.symm

/-- Words as numbers. -/
theorem xor64_v (u v : BitVec 64) : bits .xor .u64 (u.toNat : Int) (v.toNat : Int) = ((u ^^^ v).toNat : Int) := by
  show IntKind.u64.wrap ((BitVec.ofInt 64 (u.toNat : Int) ^^^ BitVec.ofInt 64 (v.toNat : Int)).toNat : Int) = _
  rw [BitVec.ofInt_natCast, BitVec.ofInt_natCast, BitVec.ofNat_toNat, BitVec.ofNat_toNat, BitVec.setWidth_eq, BitVec.setWidth_eq, IntKind.wrap_u64]
  have := (u ^^^ v).isLt
  omega
theorem or64_v (u v : BitVec 64) : bits .or .u64 (u.toNat : Int) (v.toNat : Int) = ((u ||| v).toNat : Int) := by
  show IntKind.u64.wrap ((BitVec.ofInt 64 (u.toNat : Int) ||| BitVec.ofInt 64 (v.toNat : Int)).toNat : Int) = _
  rw [BitVec.ofInt_natCast, BitVec.ofInt_natCast, BitVec.ofNat_toNat, BitVec.ofNat_toNat, BitVec.setWidth_eq, BitVec.setWidth_eq, IntKind.wrap_u64]
  have := (u ||| v).isLt
  omega
theorem low64_v (u : BitVec 64) : (bits .and .u64 (u.toNat : Int) 1 = 1) ↔ u.getLsbD 0 = true := by
  have h : bits .and .u64 (u.toNat : Int) (2 ^ 1 - 1) = (u.toNat : Int) % 2 ^ 1 :=
    bits_mask .u64 64 (by decide) (fun n h0 h1 => by rw [IntKind.wrap_u64]; omega) 1 (by omega) _ (by omega) (by have := u.isLt; exact_mod_cast this)
  rw [show (2 : Int) ^ 1 - 1 = 1 from rfl] at h
  rw [h, BitVec.getLsbD, Nat.testBit_zero]
  simp
  omega
theorem half64_v (u : BitVec 64) : (u.toNat : Int) / 2 = ((u >>> 1).toNat : Int) := by
  rw [BitVec.toNat_ushiftRight, Nat.shiftRight_eq_div_pow]
  simp
theorem up64_v (u : BitVec 64) : IntKind.u64.wrap ((u.toNat : Int) * 9223372036854775808) = ((u <<< 63).toNat : Int) := by
  rw [BitVec.toNat_shiftLeft, Nat.shiftLeft_eq, IntKind.wrap_u64]
  omega
theorem shr64_v (u : BitVec 64) (n : Nat) : (u.toNat : Int) / 2 ^ n = ((u >>> n).toNat : Int) := by
  rw [BitVec.toNat_ushiftRight, Nat.shiftRight_eq_div_pow]
  simp
theorem e1_v : (16212958658533785600 : Int) = ((0xe100000000000000#64).toNat : Int) := by decide

/-- The number of bytes, the greatest first. -/
def nb (xs : List Int) : Int := xs.foldl (fun n b => 256 * n + b) 0
theorem nb_snoc (xs : List Int) (b : Int) : nb (xs ++ [b]) = 256 * nb xs + b := by simp only [nb, List.foldl_append, List.foldl_cons, List.foldl_nil]
theorem nb_range (xs : List Int) (h : ∀ b ∈ xs, 0 ≤ b ∧ b ≤ 255) : 0 ≤ nb xs ∧ nb xs < 256 ^ xs.length := by
  obtain ⟨n, hn⟩ : ∃ n, xs.length = n := ⟨_, rfl⟩
  induction n generalizing xs with
  | zero =>
    obtain rfl := List.eq_nil_of_length_eq_zero hn
    simp [nb]
  | succ n ih =>
    have h0 : xs ≠ [] := by
      intro e
      simp [e] at hn
    obtain ⟨ys, b, rfl⟩ : ∃ ys b, xs = ys ++ [b] := ⟨xs.dropLast, xs.getLast h0, (List.dropLast_concat_getLast h0).symm⟩
    have hl : ys.length = n := by simpa using hn
    have h1 := ih ys (fun x hx => h x (List.mem_append_left _ hx)) hl
    have h2 := h b (List.mem_append_right _ (List.mem_singleton.2 rfl))
    rw [nb_snoc, List.length_append, List.length_singleton, Int.pow_succ]
    rw [hl] at h1 ⊢
    omega
/-- A block as a vector. -/
def blkV (xs : List Int) : BitVec 128 := joinV (BitVec.ofInt 64 (nb (xs.take 8))) (BitVec.ofInt 64 (nb (xs.drop 8)))
def ghV (h : BitVec 128) (s : List Int) : Nat → BitVec 128
  | 0 => 0#128
  | n + 1 => mulV h (ghV h s n ^^^ blkV ((s.drop (16 * n)).take 16))
end Go.Proofs.Ytefhhhdcgonmgaa.Hb
namespace Go.Proofs.Ytefhhhdcgonmgaa.Hb
open Go.RowKit
set_option linter.unusedVariables false

def xorB (a b : List Int) : Nat → List Int
  | 0 => a
  | k + 1 => (xorB a b k).set k (bits .xor .u8 ((xorB a b k).getD k 0) (b.getD k 0))
theorem xorB_length (a b : List Int) (k : Nat) : (xorB a b k).length = a.length := by
  induction k with
  | zero => rfl
  | succ k ih => simp [xorB, ih]

set_option maxHeartbeats 400000 in
theorem xored_any (a b : ByteArray) (w : World) (hs : a.size ≤ 140737488351232) (hab : a.size ≤ b.size) (hb : b.size ≤ 140737488351232) :
    Calls Try.prog 35 #[.string a, .string b] w fun e w' => e = .returned (.string (strOfNums (xorB (byt a) (byt b) a.size))) ∧ Below w.heap.size w w' := by
  have kc := Lib.run_convert_string_bytes (P := Try.prog) w 9 32 5 a Try.underlying9 Try.underlying32 Try.underlying5
  have hrow := Row.bytes w 5 a
  have hbel := below_bytes (Below.refl w.heap.size w) (Nat.le_refl _) 5 a
  obtain ⟨W1, hW1⟩ : ∃ W1, W1 = Lib.bytesWorld w 5 a := ⟨_, rfl⟩
  rw [← hW1] at kc hrow hbel
  clear hW1
  have hgB : Hid (w.heap.size < w.heap.size + 1) := Lib.hid (by omega)
  go_enter Try.func35, Try.ntmps35
  go_wp2
  go_loopw [11] (fun v wr => ∃ k : Nat, k ≤ a.size ∧ v = .int .i64 k ∧ Row wr w.heap.size (u8s (xorB (byt a) (byt b) k)) ∧ Below w.heap.size w wr) (fun v _ => a.size - (intOf v).toNat)
  case atStart => exact ⟨0, Nat.zero_le _, rfl, hrow, hbel⟩
  case round =>
    obtain ⟨k, hk, rfl, hr, hbl⟩ := hrel
    by_cases hlt : k < a.size
    · have hc := hr.cell (u8s_at (xs := xorB (byt a) (byt b) k) (i := k) (by rw [xorB_length]; simpa using hlt))
      have hf := hr.free (i := k) (by simpa [xorB_length] using hlt)
      have hlb : (k : Int) < (b.size : Int) := by omega
      have hxs : (byt b).getD k 0 = ((b[k]'(by omega)).toNat : Int) := by
        simp [byt, List.getD_eq_getElem?_getD, show k < b.size by omega]
        rfl
      go_wp2
      go_region
      go_wp2
      go_roundw
      case rel =>
        refine ⟨k + 1, by omega, by go_num, ?_, ?_⟩
        · have h2 := hr.set (i := k) (by simpa [xorB_length] using hlt) (.int .u8 (bits .xor .u8 ((xorB (byt a) (byt b) k).getD k 0) ((byt b).getD k 0)))
          rw [u8s_set] at h2
          rw [hxs] at h2
          simp only [xorB, hxs]
          simpa [List.getD_eq_getElem?_getD] using h2.drew
        · exact (hbl.setCell (by simp) _).drew
      case measure => simp [intOf]; omega
    · have hkk : k = a.size := by omega
      have hcv := hr.conv Try.underlying32 Try.underlying5 Try.underlying9 (n := a.size) (by simp [xorB_length]) (grownCap w a.size 0 5)
      subst hkk
      go_wp2
      go_ret
      exact ⟨rfl, hbl⟩
end Go.Proofs.Ytefhhhdcgonmgaa.Hb
