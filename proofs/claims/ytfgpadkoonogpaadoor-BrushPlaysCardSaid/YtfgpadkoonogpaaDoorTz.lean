/- math/bits.TrailingZeros64; the next number of a set. -/
import Derived.Test.YtfgpadkoonogpaaDoorProg
import Derived.Test.YtfgpadkoonogpaaDoorGn
import Derived.Test.YtfgpadkoonogpaaDoorBt
import Derived.StillTailTactics
import Derived.Laws.BitsLemmas
import Derived.Deep.CutBlock
import Derived.Deep.CutRange
namespace Go.Proofs.YtfgpadkoonogpaaDoor.Tz
open Go.RowKit Bit Wd
set_option linter.unusedSimpArgs false
set_option linter.unusedVariables false

/-- The library's table stands in its variable. -/
def Tab (w : World) : Prop := 1 < w.heap.size ∧ ∀ j, j < 64 → w.cell? ⟨1, j, none⟩ = some (.int .u8 (Lib.deBruijn64tab.getD j 0))
theorem Tab.keep {w w' : World} (h : Tab w) (h0 : w'.heap[1]? = w.heap[1]?) (hs : w.heap.size ≤ w'.heap.size) : Tab w' :=
  ⟨Nat.lt_of_lt_of_le h.1 hs, fun j hj => (World.cell?_of_block (a := ⟨1, j, none⟩) h0).trans (h.2 j hj)⟩
theorem Tab.below {B : Nat} {w w' : World} (h : Tab w) (hb : Below B w w') (hB : 1 < B) : Tab w' := h.keep (hb.block 1 hB) hb.size
theorem Tab.call {w w' : World} (h : Tab w) (hb : Below w.heap.size w w') : Tab w' := h.below hb h.1
theorem Tab.drewN {w : World} (h : Tab w) (n : Nat) : Tab (w.drewN n) := h
theorem Tab.kept {S : Nat → Prop} {w w' : World} (h : Tab w) (hk : Kept S w w') (h0 : ¬ S 1) : Tab w' := h.keep (hk.block 1 h.1 h0) hk.size

theorem tz_key (x a : Nat) (hx : x < 18446744073709551616) (hx0 : x ≠ 0) (hlow : x &&& (18446744073709551616 - x) = a) :
    IntKind.u64.wrap (bits BinOp.and IntKind.u64 (x : Int) (IntKind.u64.wrap (-(x : Int))) * 285870213051353865) / 288230376151711744 = ((a * 285870213051353865 % 18446744073709551616 / 288230376151711744 : Nat) : Int) := by
  have e1 : IntKind.u64.wrap (-(x : Int)) = ((18446744073709551616 - x : Nat) : Int) := by rw [IntKind.wrap_u64]; omega
  rw [e1, and64 x _ hx (by omega), hlow, IntKind.wrap_u64]
  omega
theorem tz_core (x k idx : Nat) (w : World) (hx0 : ((x : Int) == 0) = false)
    (key : IntKind.u64.wrap (bits BinOp.and IntKind.u64 (x : Int) (IntKind.u64.wrap (-(x : Int))) * 285870213051353865) / 288230376151711744 = (idx : Int))
    (hi : idx < 64) (hk : k < 64) (hcell : w.cell? ⟨1, idx, none⟩ = some (.int .u8 k)) :
    Calls Tryd.prog 102 #[.int .u64 x] w fun e w' => e = .returned (.int .i64 k) ∧ w = w' := by
  have KEY := Lib.hid key
  clear key
  go_enter Tryd.func102, Tryd.ntmps102
  go_wp2_with (simp only [KEY.out])
  go_ret
  exact ⟨rfl, rfl⟩
theorem tz_any (x : Nat) (hx : x < 18446744073709551616) (hx0 : x ≠ 0) (w : World) (hT : Tab w) : Calls Tryd.prog 102 #[.int .u64 x] w fun e w' => e = .returned (.int .i64 (Lib.ctz 64 x)) ∧ w = w' := by
  obtain ⟨hlow, hk⟩ := Lib.lowest_bit 64 x hx0 hx
  obtain ⟨hi, htab⟩ := Lib.deBruijn64_at _ hk
  have hcell := hT.2 _ hi
  rw [htab] at hcell
  exact tz_core x _ _ w (by simp; omega) (tz_key x _ hx hx0 hlow) hi hk hcell
/-- The least number from f on of which p is true, or -1. -/
def Nxt (p : Nat → Bool) (f : Nat) (r : Int) : Prop := (r = -1 ∧ ∀ j, f ≤ j → p j = false) ∨ ∃ j : Nat, r = (j : Int) ∧ f ≤ j ∧ p j = true ∧ ∀ i, f ≤ i → i < j → p i = false
theorem Nxt.uniq {p : Nat → Bool} {f : Nat} {r s : Int} (h : Nxt p f r) (k : Nxt p f s) : r = s := by
  rcases h with ⟨rfl, h⟩ | ⟨j, rfl, h1, h2, h3⟩ <;> rcases k with ⟨rfl, k⟩ | ⟨i, rfl, k1, k2, k3⟩
  · rfl
  · rw [h i k1] at k2; cases k2
  · rw [k j h1] at h2; cases h2
  · rcases Nat.lt_trichotomy i j with e | rfl | e
    · rw [h3 i k1 e] at k2; cases k2
    · rfl
    · rw [k3 j h1 e] at h2; cases h2
/-- What one word tells. -/
theorem word_some {p : Nat → Bool} {f k y : Nat} (hy : y < 18446744073709551616) (h0 : y ≠ 0) (hb : ∀ i, i < 64 → y.testBit i = (decide (f ≤ 64 * k + i) && p (64 * k + i))) (hp : ∀ j, f ≤ j → j < 64 * k → p j = false) :
    Lib.ctz 64 y < 64 ∧ Nxt p f ((64 * k + Lib.ctz 64 y : Nat) : Int) := by
  obtain ⟨a, b, c⟩ := ctz_spec 64 y h0 (by omega)
  rw [hb _ a] at b
  have b' := Bool.and_eq_true_iff.1 b
  refine ⟨a, .inr ⟨_, rfl, of_decide_eq_true b'.1, b'.2, fun i hi hlt => ?_⟩⟩
  by_cases h : i < 64 * k
  · exact hp i hi h
  · obtain ⟨q, rfl⟩ : ∃ q, i = 64 * k + q := ⟨i - 64 * k, by omega⟩
    have := c q (by omega)
    rw [hb q (by omega)] at this
    simpa [hi] using this
theorem word_none {p : Nat → Bool} {f k : Nat} (hb : ∀ i, i < 64 → (0 : Nat).testBit i = (decide (f ≤ 64 * k + i) && p (64 * k + i))) (hp : ∀ j, f ≤ j → j < 64 * k → p j = false) : ∀ j, f ≤ j → j < 64 * (k + 1) → p j = false := by
  intro j hj hlt
  by_cases h : j < 64 * k
  · exact hp j hj h
  · obtain ⟨q, rfl⟩ : ∃ q, j = 64 * k + q := ⟨j - 64 * k, by omega⟩
    have := hb q (by omega)
    rw [Nat.zero_testBit] at this
    simpa [hj] using this.symm
theorem sl_next {p : Nat → Bool} {f j : Nat} (hj : f ≤ j) (hp : p j = true) (hno : ∀ i, f ≤ i → i < j → p i = false) : sl (j + 1) p = sl f p ++ [j] := by
  have h1 : sl (j + 1) p = sl j p ++ [j] := by
    unfold sl
    rw [List.range_succ, List.filter_append]
    simp [hp]
  rw [h1]
  congr 1
  unfold sl
  obtain ⟨d, rfl⟩ : ∃ d, j = f + d := ⟨j - f, by omega⟩
  rw [List.range_add, List.filter_append]
  have : (List.map (fun x => f + x) (List.range d)).filter p = [] := by
    rw [List.filter_eq_nil_iff]
    intro i hi
    obtain ⟨x, hx, rfl⟩ := List.mem_map.1 hi
    have := List.mem_range.1 hx
    rw [hno _ (by omega) (by omega)]
    simp
  rw [this, List.append_nil]
theorem sl_end {p : Nat → Bool} {f n : Nat} (hf : f ≤ n) (hno : ∀ i, f ≤ i → p i = false) : sl n p = sl f p := sl_short hf hno
end Go.Proofs.YtfgpadkoonogpaaDoor.Tz
