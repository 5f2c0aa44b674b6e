/- Package sieve: math/bits' functions on 64 bits, the mask, the bit of a number. -/
import Derived.Test.YtjlbmelpoaffpaaDoorProg
import Derived.Test.YtjlbmelpoaffpaaDoorApp3
import Derived.Test.YtjlbmelpoaffpaaDoorWd
import Derived.StillTailTactics
import Derived.Laws.BitsLemmas
import Derived.Deep.CutBlock
import Derived.Deep.CutRange
namespace Go.Proofs.YtjlbmelpoaffpaaDoor.Sv
open Go.RowKit Bit Wd
set_option linter.unusedSimpArgs false
set_option linter.unusedVariables false

/-- The library's table stands in its variable. -/
def Tab (w : World) : Prop := 0 < w.heap.size ∧ ∀ j, j < 64 → w.cell? ⟨0, j, none⟩ = some (.int .u8 (Lib.deBruijn64tab.getD j 0))
theorem Tab.keep {w w' : World} (h : Tab w) (h0 : w'.heap[0]? = w.heap[0]?) (hs : w.heap.size ≤ w'.heap.size) : Tab w' :=
  ⟨Nat.lt_of_lt_of_le h.1 hs, fun j hj => (World.cell?_of_block (a := ⟨0, j, none⟩) h0).trans (h.2 j hj)⟩
theorem Tab.below {B : Nat} {w w' : World} (h : Tab w) (hb : Below B w w') (hB : 0 < B) : Tab w' := h.keep (hb.block 0 hB) hb.size
theorem Tab.call {w w' : World} (h : Tab w) (hb : Below w.heap.size w w') : Tab w' := h.below hb h.1
theorem Tab.drewN {w : World} (h : Tab w) (n : Nat) : Tab (w.drewN n) := h
theorem Tab.kept {S : Nat → Prop} {w w' : World} (h : Tab w) (hk : Kept S w w') (h0 : ¬ S 0) : Tab w' := h.keep (hk.block 0 h.1 h0) hk.size

theorem tz_key (x a : Nat) (hx : x < 18446744073709551616) (hx0 : x ≠ 0) (hlow : x &&& (18446744073709551616 - x) = a) :
    IntKind.u64.wrap (bits BinOp.and IntKind.u64 (x : Int) (IntKind.u64.wrap (-(x : Int))) * 285870213051353865) / 288230376151711744 = ((a * 285870213051353865 % 18446744073709551616 / 288230376151711744 : Nat) : Int) := by
  have e1 : IntKind.u64.wrap (-(x : Int)) = ((18446744073709551616 - x : Nat) : Int) := by rw [IntKind.wrap_u64]; omega
  rw [e1, and64 x _ hx (by omega), hlow, IntKind.wrap_u64]
  omega
theorem tz_core (x k idx : Nat) (w : World) (hx0 : ((x : Int) == 0) = false)
    (key : IntKind.u64.wrap (bits BinOp.and IntKind.u64 (x : Int) (IntKind.u64.wrap (-(x : Int))) * 285870213051353865) / 288230376151711744 = (idx : Int))
    (hi : idx < 64) (hk : k < 64) (hcell : w.cell? ⟨0, idx, none⟩ = some (.int .u8 k)) :
    Calls Tryd.prog 46 #[.int .u64 x] w fun e w' => e = .returned (.int .i64 k) ∧ w = w' := by
  have KEY := Lib.hid key
  clear key
  go_enter Tryd.func46, Tryd.ntmps46
  go_wp2_with (simp only [KEY.out])
  go_ret
  exact ⟨rfl, rfl⟩
theorem tz_any (x : Nat) (hx : x < 18446744073709551616) (hx0 : x ≠ 0) (w : World) (hT : Tab w) : Calls Tryd.prog 46 #[.int .u64 x] w fun e w' => e = .returned (.int .i64 (Lib.ctz 64 x)) ∧ w = w' := by
  obtain ⟨hlow, hk⟩ := Lib.lowest_bit 64 x hx0 hx
  obtain ⟨hi, htab⟩ := Lib.deBruijn64_at _ hk
  have hcell := hT.2 _ hi
  rw [htab] at hcell
  exact tz_core x _ _ w (by simp; omega) (tz_key x _ hx hx0 hlow) hi hk hcell
theorem ones_facts (x : Nat) (hx : x < 18446744073709551616) : ∃ y z u v1 v2 v3 : Nat,
    IntKind.u64.wrap (bits BinOp.and IntKind.u64 ((x : Int) / 2) 6148914691236517205 + bits BinOp.and IntKind.u64 (x : Int) 6148914691236517205) = (y : Int) ∧
    IntKind.u64.wrap (bits BinOp.and IntKind.u64 ((y : Int) / 4) 3689348814741910323 + bits BinOp.and IntKind.u64 (y : Int) 3689348814741910323) = (z : Int) ∧
    bits BinOp.and IntKind.u64 (IntKind.u64.wrap ((z : Int) / 16 + (z : Int))) 1085102592571150095 = (u : Int) ∧
    IntKind.u64.wrap ((u : Int) + (u : Int) / 256) = (v1 : Int) ∧ IntKind.u64.wrap ((v1 : Int) + (v1 : Int) / 65536) = (v2 : Int) ∧ IntKind.u64.wrap ((v2 : Int) + (v2 : Int) / 4294967296) = (v3 : Int) ∧
    v3 < 9223372036854775808 ∧ v3 % 128 = pop x := by
  obtain ⟨y, hy⟩ : ∃ y, y = (x / 2 &&& 6148914691236517205) + (x &&& 6148914691236517205) := ⟨_, rfl⟩
  obtain ⟨z, hz⟩ : ∃ z, z = (y / 4 &&& 3689348814741910323) + (y &&& 3689348814741910323) := ⟨_, rfl⟩
  obtain ⟨u, hu⟩ : ∃ u, u = z / 16 + z &&& 1085102592571150095 := ⟨_, rfl⟩
  obtain ⟨h1, h2, h3, h4, h5, h6, h7, h8⟩ := pop_way x y z u hy hz hu
  have a1 := and64 (x / 2) 6148914691236517205 (by omega) (by omega)
  have a2 := and64 x 6148914691236517205 hx (by omega)
  have a3 := and64 (y / 4) 3689348814741910323 (by omega) (by omega)
  have a4 := and64 y 3689348814741910323 h1 (by omega)
  have a5 := and64 (z / 16 + z) 1085102592571150095 h3 (by omega)
  refine ⟨y, z, u, u + u / 256, u + u / 256 + (u + u / 256) / 65536, u + u / 256 + (u + u / 256) / 65536 + (u + u / 256 + (u + u / 256) / 65536) / 4294967296, ?_, ?_, ?_, ?_, ?_, ?_, h7, h8⟩
  · rw [show (x : Int) / 2 = ((x / 2 : Nat) : Int) from rfl, show (6148914691236517205 : Int) = ((6148914691236517205 : Nat) : Int) from rfl, a1, a2, ← Int.natCast_add, ← hy]
    exact wrap_u64 h1
  · rw [show (y : Int) / 4 = ((y / 4 : Nat) : Int) from rfl, show (3689348814741910323 : Int) = ((3689348814741910323 : Nat) : Int) from rfl, a3, a4, ← Int.natCast_add, ← hz]
    exact wrap_u64 h2
  · rw [show (z : Int) / 16 + (z : Int) = ((z / 16 + z : Nat) : Int) from rfl, wrap_u64 h3, show (1085102592571150095 : Int) = ((1085102592571150095 : Nat) : Int) from rfl, a5, ← hu]
  · exact wrap_u64 (x := u + u / 256) h5
  · exact wrap_u64 (x := u + u / 256 + (u + u / 256) / 65536) h6
  · exact wrap_u64 (x := u + u / 256 + (u + u / 256) / 65536 + (u + u / 256 + (u + u / 256) / 65536) / 4294967296) (by omega)
theorem and127 (v : Nat) (hv : v < 9223372036854775808) : bits BinOp.and IntKind.i64 (v : Int) 127 = ((v % 128 : Nat) : Int) :=
  (bits_mask .i64 63 (by decide) (fun n h0 h1 => by rw [IntKind.wrap_i64]; omega) 7 (by decide) (v : Int) (by omega) (by omega)).trans rfl
theorem wrap_i (v : Nat) (hv : v < 9223372036854775808) : wrap64 (v : Int) = (v : Int) := wrap64_id (by omega)
theorem ones_any (x : Nat) (hx : x < 18446744073709551616) (w : World) : Calls Tryd.prog 47 #[.int .u64 x] w fun e w' => e = .returned (.int .i64 (pop x)) ∧ ∃ n, w' = w.drewN n := by
  obtain ⟨y, z, u, v1, v2, v3, h1, h2, h3, h4, h5, h6, h7, h8⟩ := ones_facts x hx
  have H1 := Lib.hid h1
  have H2 := Lib.hid h2
  have H3 := Lib.hid h3
  have H4 := Lib.hid h4
  have H5 := Lib.hid h5
  have H6 := Lib.hid h6
  have H8 := Lib.hid ((and127 v3 h7).trans (congrArg Int.ofNat h8))
  have H7 := Lib.hid (wrap_i v3 h7)
  clear h1 h2 h3 h4 h5 h6 h7 h8 hx
  go_enter Tryd.func47, Tryd.ntmps47
  go_upto_region 2 with (fail)
  rw [H1.out]
  go_upto_region 3 with (fail)
  rw [H2.out]
  go_upto_region 4 with (fail)
  rw [H3.out]
  go_upto_region 5 with (fail)
  rw [H4.out]
  go_upto_region 6 with (fail)
  rw [H5.out]
  go_upto_region 7 with (fail)
  rw [H6.out]
  go_wp2_with (first | simp only [H8.out] | simp only [H7.out])
  go_ret
  exact ⟨rfl, 0, rfl⟩
theorem and63 (k : Nat) (hk : k ≤ 9223372036854775807) : bits .and .u64 (k : Int) 63 = ((k % 64 : Nat) : Int) := by
  have h := and64 k 63 (by omega) (by omega)
  rw [show ((63 : Nat) : Int) = 63 from rfl] at h
  rw [h, show (63 : Nat) = 2 ^ 6 - 1 from rfl, Nat.and_two_pow_sub_one_eq_mod]
theorem pow_int {k : Nat} (h : k < 64) : IntKind.u64.wrap ((2 : Int) ^ k) = ((2 ^ k : Nat) : Int) := by
  have e : ((2 ^ k : Nat) : Int) = (2 : Int) ^ k := by simp
  rw [← e]
  exact wrap_u64 (pow_lt h)
theorem bit_any (k : Nat) (hk : k ≤ 9223372036854775807) (w : World) : Calls Tryd.prog 45 #[.int .i64 k] w fun e w' => e = .returned (.int .u64 ((2 ^ (k % 64) : Nat) : Int)) ∧ w = w' := by
  have HA := Lib.hid (and63 k hk)
  have hm := Nat.mod_lt k (show 0 < 64 by omega)
  have HP := Lib.hid (pow_int hm)
  generalize k % 64 = m at *
  go_enter Tryd.func45, Tryd.ntmps45
  go_wp2_with (simp only [HA.out])
  rw [HP.out]
  go_ret
  exact ⟨rfl, rfl⟩
theorem mask_int {f t : Nat} (h : f < t) (ht : t ≤ 64) : IntKind.u64.wrap ((18446744073709551615 : Int) / (2 : Int) ^ (64 - (t - f)) * (2 : Int) ^ f) = ((mask f t : Nat) : Int) := by
  have e : (18446744073709551615 : Int) / (2 : Int) ^ (64 - (t - f)) * (2 : Int) ^ f = ((18446744073709551615 / 2 ^ (64 - (t - f)) * 2 ^ f : Nat) : Int) := by
    rw [Int.natCast_mul, Int.natCast_ediv]
    simp
  rw [e, mask_way h ht]
  exact wrap_u64 (mask_lt ht)
theorem mask_core (f t : Nat) (h : f < t) (ht : t ≤ 64) (w : World) (x y : Int) (hx : min (max x 0) 64 = (f : Int)) (hy : min (max y 0) 64 = (t : Int)) : Calls Tryd.prog 11 #[.int .i64 x, .int .i64 y] w fun e w' => e = .returned (.int .u64 (mask f t)) ∧ w = w' := by
  have h1 : (f : Int) < (t : Int) := by omega
  have h2 : (t : Int) ≤ 64 := by omega
  have h3 : (0 : Int) ≤ (f : Int) := by omega
  have h4 : ¬ (t : Int) ≤ (f : Int) := by omega
  have h5 : (f : Int) ≤ 64 := by omega
  have h6 : (0 : Int) ≤ (t : Int) := by omega
  have HM := Lib.hid (mask_int h ht)
  have hxx : (f = 0 ∧ x < 0) ∨ x = (f : Int) := by omega
  have hyy : (t = 64 ∧ 64 < y) ∨ y = (t : Int) := by omega
  clear hx hy
  rcases hxx with ⟨rfl, hxx⟩ | rfl <;> rcases hyy with ⟨rfl, hyy⟩ | rfl
  all_goals
    go_enter Tryd.func11, Tryd.ntmps11
    go_wp2_with fail
    go_ret
    refine ⟨?_, rfl⟩
    first
      | exact congrArg (fun v => Ending.returned (.int .u64 v)) HM.out
      | (rw [← HM.out]; simp; done)
      | (rw [← HM.out]; rfl)
theorem mask_zero (x y : Int) (h : min (max y 0) 64 ≤ min (max x 0) 64) (w : World) : Calls Tryd.prog 11 #[.int .i64 x, .int .i64 y] w fun e w' => e = .returned (.int .u64 0) ∧ w = w' := by
  by_cases x0 : x < 0
  · have y0 : y ≤ 0 := by omega
    by_cases y1 : y < 0
    · clear h
      go_enter Tryd.func11, Tryd.ntmps11
      go_wp2_with fail
      go_ret
      exact ⟨rfl, rfl⟩
    · obtain rfl : y = 0 := by omega
      clear h
      go_enter Tryd.func11, Tryd.ntmps11
      go_wp2_with fail
      go_ret
      exact ⟨rfl, rfl⟩
  by_cases x1 : 64 < x
  · by_cases y0 : y < 0
    · clear h
      go_enter Tryd.func11, Tryd.ntmps11
      go_wp2_with fail
      go_ret
      exact ⟨rfl, rfl⟩
    · by_cases y1 : 64 < y
      · clear h
        go_enter Tryd.func11, Tryd.ntmps11
        go_wp2_with fail
        go_ret
        exact ⟨rfl, rfl⟩
      · have y2 : y ≤ 64 := by omega
        have y3 : 0 ≤ y := by omega
        clear h
        go_enter Tryd.func11, Tryd.ntmps11
        go_wp2_with fail
        go_ret
        exact ⟨rfl, rfl⟩
  have x2 : 0 ≤ x := by omega
  have x3 : x ≤ 64 := by omega
  by_cases y0 : y < 0
  · clear h
    go_enter Tryd.func11, Tryd.ntmps11
    go_wp2_with fail
    go_ret
    exact ⟨rfl, rfl⟩
  by_cases y1 : 64 < y
  · obtain rfl : x = 64 := by omega
    clear h
    go_enter Tryd.func11, Tryd.ntmps11
    go_wp2_with fail
    go_ret
    exact ⟨rfl, rfl⟩
  · have y2 : y ≤ 64 := by omega
    have y3 : 0 ≤ y := by omega
    have h4 : y ≤ x := by omega
    clear h
    go_enter Tryd.func11, Tryd.ntmps11
    go_wp2_with fail
    go_ret
    exact ⟨rfl, rfl⟩
/-- A run of bits from one number on and below another one. -/
def mk (x y : Int) : Nat := mask (min (max x 0) 64).toNat (min (max y 0) 64).toNat
theorem mk_lt (x y : Int) : mk x y < 18446744073709551616 := mask_lt (by omega)
theorem mk_bit (x y : Int) {i : Nat} (hi : i < 64) : (mk x y).testBit i = (decide (x ≤ (i : Int)) && decide ((i : Int) < y)) := by
  unfold mk
  rw [mask_bit]
  congr 1
  · congr 1; apply propext; omega
  · congr 1; apply propext; omega
theorem mask_any (x y : Int) (w : World) : Calls Tryd.prog 11 #[.int .i64 x, .int .i64 y] w fun e w' => e = .returned (.int .u64 (mk x y)) ∧ w = w' := by
  by_cases h : min (max y 0) 64 ≤ min (max x 0) 64
  · have e : mk x y = 0 := by unfold mk mask; rw [if_neg (by omega)]
    rw [e]
    exact mask_zero x y h w
  · exact mask_core _ _ (by omega) (by omega) w x y (by omega) (by omega)
end Go.Proofs.YtjlbmelpoaffpaaDoor.Sv
