/- Package brush: what a brush is in memory; the contracts of Begin, take. -/
import Derived.Test.YtoajbjeiplolnaaDoorRTz
namespace Go.Proofs.YtoajbjeiplolnaaDoorR.Br
open Go.RowKit Bit Wd Tz
set_option linter.unusedSimpArgs false
set_option linter.unusedVariables false

/-- The pages that are left stand in a word. -/
structure BrAt (w : World) (b : Nat) (U : Nat) : Prop where
  blk : Blk w b #[.int .u64 U] 86
  lt : U < 18446744073709551616
theorem BrAt.keep {w w' : World} {b U : Nat} (h : BrAt w b U) (hb : w'.heap[b]? = w.heap[b]?) : BrAt w' b U := ⟨hb.trans h.blk, h.lt⟩
theorem BrAt.call {w w' : World} {b U : Nat} (h : BrAt w b U) (hb : Below w.heap.size w w') : BrAt w' b U := h.keep (hb.block b h.blk.lt)
theorem rest_bit (U f i : Nat) : (U / 2 ^ f * 2 ^ f).testBit i = (decide (f ≤ i) && U.testBit i) := by
  rw [Nat.mul_comm, Nat.testBit_two_pow_mul, Nat.testBit_div_two_pow]
  by_cases h : f ≤ i
  · rw [show i - f + f = i by omega]
  · simp [h]
theorem rest_int {U f : Nat} (h : U < 18446744073709551616) : IntKind.u64.wrap ((U : Int) / (2 : Int) ^ f * (2 : Int) ^ f) = ((U / 2 ^ f * 2 ^ f : Nat) : Int) := by
  have e : (U : Int) / (2 : Int) ^ f * (2 : Int) ^ f = ((U / 2 ^ f * 2 ^ f : Nat) : Int) := by
    rw [Int.natCast_mul, Int.natCast_ediv]
    simp
  rw [e]
  have := Nat.div_mul_le_self U (2 ^ f)
  exact wrap_u64 (by omega)
theorem take_any (b U f : Nat) (w : World) (h : BrAt w b U) (hf : f ≤ 64) (hT : Tab w) :
    Calls Tryd.prog 106 #[.pointer (some ⟨b, 0, none⟩), .int .i64 (f : Int)] w fun e w' => ∃ r : Int, e = .returned (.int .i64 r) ∧ Nxt U.testBit f r ∧ w = w' := by
  have c0 : w.cell? ⟨b, 0, none⟩ = some (.int .u64 U) := h.blk.cell 0
  have HT := Lib.hid hT
  have HU := Lib.hid h.lt
  have HK := Lib.hid (rest_int (f := f) h.lt)
  have HY := Lib.hid (show U / 2 ^ f * 2 ^ f < 18446744073709551616 by have := Nat.div_mul_le_self U (2 ^ f); have := h.lt; omega)
  have HB := Lib.hid (rest_bit U f)
  clear h hT
  go_enter Tryd.func106, Tryd.ntmps106
  go_upto_if 19 with (fail)
  rw [HK.out]
  generalize U / 2 ^ f * 2 ^ f = y at *
  by_cases h0 : y = 0
  · have hy0 : ((y : Int) == 0) = true := by simp [h0]
    rw [hy0]
    subst h0
    go_wp2_with fail
    go_ret
    refine ⟨-1, rfl, .inl ⟨rfl, fun j hj => ?_⟩, rfl⟩
    have := HB.out j
    rw [Nat.zero_testBit] at this
    simpa [hj] using this.symm
  · have hy0 : ((y : Int) == 0) = false := by simp; omega
    rw [hy0]
    go_wp2_with fail
    refine (tz_any y HY.out h0 _ HT.out).mono ?_
    rintro e w1 ⟨rfl, rfl⟩
    dsimp only
    go_wp2_with fail
    go_ret
    refine ⟨_, rfl, ?_, rfl⟩
    have := (word_some (p := U.testBit) (f := f) (k := 0) HY.out h0 (fun i _ => by rw [HB.out]; simp) (fun j _ hj => by omega)).2
    simpa using this
theorem full_int {f : Nat} (hf : f ≤ 64) : bits .xor .u64 IntKind.u64.max (IntKind.u64.wrap (18446744073709551615 * (2 : Int) ^ f)) = ((2 ^ f - 1 : Nat) : Int) := by
  have : ∀ f : Nat, f < 65 → bits .xor .u64 IntKind.u64.max (IntKind.u64.wrap (18446744073709551615 * (2 : Int) ^ f)) = ((2 ^ f - 1 : Nat) : Int) := by decide
  exact this f (by omega)
theorem begin_core (b U f : Nat) (x : Int) (w : World) (h : BrAt w b U) (hf : f ≤ 64) (hx : min (max x 0) 64 = (f : Int)) :
    Calls Tryd.prog 54 #[.pointer (some ⟨b, 0, none⟩), .int .i64 x] w fun e w' => e = .returned (.tuple #[]) ∧ BrAt w' b (2 ^ f - 1) ∧ Kept (fun i => i = b) w w' := by
  have c0 : w.cell? ⟨b, 0, none⟩ = some (.int .u64 U) := h.blk.cell 0
  have hlt := h.blk.lt
  have hfr := h.blk.free 0
  have H := Lib.hid h
  have HK := Lib.hid (full_int hf)
  have hxx : (f = 0 ∧ x < 0) ∨ (f = 64 ∧ 64 < x) ∨ (x = (f : Int)) := by omega
  clear h hx
  have e1 : bits .xor .u64 IntKind.u64.max 18446744073709551615 = 0 := by decide
  have e2 : bits .xor .u64 IntKind.u64.max (IntKind.u64.wrap 340282366920938463444927863358058659840) = 18446744073709551615 := by decide
  rcases hxx with ⟨rfl, hxx⟩ | ⟨rfl, hxx⟩ | rfl
  · go_enter Tryd.func54, Tryd.ntmps54
    go_wp2_with fail
    refine bodyPost_end (results_none rfl _ _ _) rfl ?_
    exact ⟨rfl, ⟨Blk.of_eq (H.out.blk.set 0 _) (cs' := #[.int .u64 0]) rfl, by decide⟩, (Kept.refl (fun i => i = b) w).set (p := ⟨b, 0, none⟩) (.inl rfl) _⟩
  · go_enter Tryd.func54, Tryd.ntmps54
    go_wp2_with fail
    refine bodyPost_end (results_none rfl _ _ _) rfl ?_
    exact ⟨rfl, ⟨Blk.of_eq (H.out.blk.set 0 _) (cs' := #[.int .u64 18446744073709551615]) rfl, by decide⟩, (Kept.refl (fun i => i = b) w).set (p := ⟨b, 0, none⟩) (.inl rfl) _⟩
  · go_enter Tryd.func54, Tryd.ntmps54
    go_wp2_with fail
    rw [HK.out]
    refine bodyPost_end (results_none rfl _ _ _) rfl ?_
    exact ⟨rfl, ⟨Blk.of_eq (H.out.blk.set 0 _) (cs' := #[.int .u64 ((2 ^ f - 1 : Nat) : Int)]) rfl, by have : 2 ^ f ≤ 2 ^ 64 := Nat.pow_le_pow_right (by omega) hf; omega⟩, (Kept.refl (fun i => i = b) w).set (p := ⟨b, 0, none⟩) (.inl rfl) _⟩
theorem begin_any (b U : Nat) (x : Int) (w : World) (h : BrAt w b U) :
    Calls Tryd.prog 54 #[.pointer (some ⟨b, 0, none⟩), .int .i64 x] w fun e w' => e = .returned (.tuple #[]) ∧ BrAt w' b (2 ^ (min (max x 0) 64).toNat - 1) ∧ Kept (fun i => i = b) w w' :=
  begin_core b U _ x w h (by omega) (by omega)
end Go.Proofs.YtoajbjeiplolnaaDoorR.Br
