/- Package page: what a page is in memory, and the contracts of its functions (math/bits' two among them). -/
import Derived.Test.YtoajbjeiplolnaaDoorRProg
import Derived.Test.YtoajbjeiplolnaaDoorRApp3
import Derived.Test.YtoajbjeiplolnaaDoorRClsS
import Derived.Test.YtoajbjeiplolnaaDoorRBits
import Derived.StillTailTactics
namespace Go.Proofs.YtoajbjeiplolnaaDoorR.Pg
open Go.RowKit Bit
set_option linter.unusedSimpArgs false
set_option linter.unusedVariables false

/-- The library's table stands in its variable. -/
def Tab (w : World) : Prop := 0 < w.heap.size ∧ ∀ j, j < 32 → w.cell? ⟨0, j, none⟩ = some (.int .u8 (Lib.deBruijn32tab.getD j 0))
theorem Tab.keep {w w' : World} (h : Tab w) (h0 : w'.heap[0]? = w.heap[0]?) (hs : w.heap.size ≤ w'.heap.size) : Tab w' :=
  ⟨Nat.lt_of_lt_of_le h.1 hs, fun j hj => (World.cell?_of_block (a := ⟨0, j, none⟩) h0).trans (h.2 j hj)⟩
theorem Tab.below {B : Nat} {w w' : World} (h : Tab w) (hb : Below B w w') (hB : 0 < B) : Tab w' := h.keep (hb.block 0 hB) hb.size
theorem Tab.call {w w' : World} (h : Tab w) (hb : Below w.heap.size w w') : Tab w' := h.below hb h.1
theorem Tab.drewN {w : World} (h : Tab w) (n : Nat) : Tab (w.drewN n) := h
theorem Tab.kept {S : Nat → Prop} {w w' : World} (h : Tab w) (hk : Kept S w w') (h0 : ¬ S 0) : Tab w' := h.keep (hk.block 0 h.1 h0) hk.size

theorem tz_key (x a : Nat) (hx : x < 4294967296) (hx0 : x ≠ 0) (hlow : x &&& (4294967296 - x) = a) :
    bits BinOp.and IntKind.u32 (x : Int) (-(x : Int) % 4294967296) * 125613361 % 4294967296 / 134217728 = ((a * 125613361 % 4294967296 / 134217728 : Nat) : Int) := by
  have e1 : -(x : Int) % 4294967296 = ((4294967296 - x : Nat) : Int) := by omega
  rw [e1, and32 x _ hx (by omega), hlow]
  omega
theorem tz_core (x k idx : Nat) (w : World) (hx0 : ((x : Int) == 0) = false)
    (key : bits BinOp.and IntKind.u32 (x : Int) (-(x : Int) % 4294967296) * 125613361 % 4294967296 / 134217728 = (idx : Int))
    (hi : idx < 32) (hk : k < 32) (hcell : w.cell? ⟨0, idx, none⟩ = some (.int .u8 k)) :
    Calls Tryd.prog 114 #[.int .u32 x] w fun e w' => e = .returned (.int .i64 k) ∧ w = w' := by
  go_enter Tryd.func114, Tryd.ntmps114
  go_wp2_with (simp only [key])
  go_ret
  exact ⟨rfl, rfl⟩
theorem tz_zero (w : World) : Calls Tryd.prog 114 #[.int .u32 0] w fun e w' => e = .returned (.int .i64 32) ∧ w = w' := by
  go_enter Tryd.func114, Tryd.ntmps114
  go_wp2
  go_ret
  exact ⟨rfl, rfl⟩
theorem tz_any (x : Nat) (hx : x < 4294967296) (w : World) (hT : Tab w) : Calls Tryd.prog 114 #[.int .u32 x] w fun e w' => e = .returned (.int .i64 (Lib.ctz 32 x)) ∧ w = w' := by
  by_cases hx0 : x = 0
  · subst hx0
    exact tz_zero w
  · obtain ⟨hlow, hk⟩ := Lib.lowest_bit 32 x hx0 hx
    obtain ⟨hi, htab⟩ := Lib.deBruijn32_at _ hk
    have hcell := hT.2 _ hi
    rw [htab] at hcell
    exact tz_core x _ _ w (by simp; omega) (tz_key x _ hx hx0 hlow) hi hk hcell

/-- How many bits are set. -/
def popc (x : Nat) : Nat := Lib.onesCount (x / 16777216) + Lib.onesCount (x / 65536 % 256) + Lib.onesCount (x / 256 % 256) + Lib.onesCount (x % 256)
theorem pop8_nat (b : Nat) (h : b < 256) : Lib.pop8 (b : Int) = (Lib.onesCount b : Int) ∧ Lib.onesCount b ≤ 8 := ⟨Lib.pop8_eq ⟨b, h⟩, Lib.onesCount_le8 ⟨b, h⟩⟩
set_option maxHeartbeats 1000000 in
theorem ones_any (x : Nat) (hx : x < 4294967296) (w : World) : Calls Tryd.prog 117 #[.int .u32 x] w fun e w' => e = .returned (.int .i64 (popc x)) ∧ ∃ n, w' = w.drewN n := by
  have hx0 : (0 : Int) ≤ (x : Int) := by omega
  have hx1 : (x : Int) ≤ 4294967295 := by omega
  have h1 : (0 : Int) ≤ (x : Int) / 16777216 := by omega
  have h2 : (x : Int) / 16777216 ≤ 255 := by omega
  have e1 : bits BinOp.and IntKind.u32 ((x : Int) / 65536) 255 = (x : Int) / 65536 % 256 := by have := and255 (x / 65536) (by omega); simpa using this
  have e2 : bits BinOp.and IntKind.u32 ((x : Int) / 256) 255 = (x : Int) / 256 % 256 := by have := and255 (x / 256) (by omega); simpa using this
  have e3 : bits BinOp.and IntKind.u32 (x : Int) 255 = (x : Int) % 256 := by have := and255 x hx; simpa using this
  have h3 : (0 : Int) ≤ (x : Int) / 65536 % 256 := by omega
  have h4 : (x : Int) / 65536 % 256 ≤ 255 := by omega
  have h5 : (0 : Int) ≤ (x : Int) / 256 % 256 := by omega
  have h6 : (x : Int) / 256 % 256 ≤ 255 := by omega
  have h7 : (0 : Int) ≤ (x : Int) % 256 := by omega
  have h8 : (x : Int) % 256 ≤ 255 := by omega
  obtain ⟨p1, q1⟩ := pop8_nat (x / 16777216) (by omega)
  obtain ⟨p2, q2⟩ := pop8_nat (x / 65536 % 256) (by omega)
  obtain ⟨p3, q3⟩ := pop8_nat (x / 256 % 256) (by omega)
  obtain ⟨p4, q4⟩ := pop8_nat (x % 256) (by omega)
  have hp : popc x = Lib.onesCount (x / 16777216) + Lib.onesCount (x / 65536 % 256) + Lib.onesCount (x / 256 % 256) + Lib.onesCount (x % 256) := rfl
  generalize popc x = r at *
  have a1 : Lib.pop8 ((x : Int) / 16777216) = (Lib.onesCount (x / 16777216) : Int) := by simpa using p1
  have a2 : Lib.pop8 ((x : Int) / 65536 % 256) = (Lib.onesCount (x / 65536 % 256) : Int) := by simpa using p2
  have a3 : Lib.pop8 ((x : Int) / 256 % 256) = (Lib.onesCount (x / 256 % 256) : Int) := by simpa using p3
  have a4 : Lib.pop8 ((x : Int) % 256) = (Lib.onesCount (x % 256) : Int) := by simpa using p4
  clear p1 p2 p3 p4
  generalize Lib.onesCount (x / 16777216) = s1 at *
  generalize Lib.onesCount (x / 65536 % 256) = s2 at *
  generalize Lib.onesCount (x / 256 % 256) = s3 at *
  generalize Lib.onesCount (x % 256) = s4 at *
  subst hp
  have b1 : (s1 : Int) ≤ 8 := by omega
  have b2 : (s2 : Int) ≤ 8 := by omega
  have b3 : (s3 : Int) ≤ 8 := by omega
  have b4 : (s4 : Int) ≤ 8 := by omega
  have g1 : (0 : Int) ≤ (s1 : Int) := by omega
  have g2 : (0 : Int) ≤ (s2 : Int) := by omega
  have g3 : (0 : Int) ≤ (s3 : Int) := by omega
  have g4 : (0 : Int) ≤ (s4 : Int) := by omega
  have w1 : IntKind.u8.wrap ((s1 : Int) + s2) = (s1 : Int) + s2 := by simp [IntKind.wrap, IntKind.signed, IntKind.bits]; omega
  have w2 : IntKind.u8.wrap ((s1 : Int) + s2 + s3) = (s1 : Int) + s2 + s3 := by simp [IntKind.wrap, IntKind.signed, IntKind.bits]; omega
  have w3 : IntKind.u8.wrap ((s1 : Int) + s2 + s3 + s4) = (s1 : Int) + s2 + s3 + s4 := by simp [IntKind.wrap, IntKind.signed, IntKind.bits]; omega
  have w4 : IntKind.i64.wrap ((s1 : Int) + s2 + s3 + s4) = (s1 : Int) + s2 + s3 + s4 := IntWalk.i64_in _ (by omega)
  go_enter Tryd.func117, Tryd.ntmps117
  go_wp2_with fail
  go_quiet (fail)
  go_wp2_with fail
  go_ret
  refine ⟨?_, _, rfl⟩
  rw [show (((s1 + s2 + s3 + s4 : Nat)) : Int) = (s1 : Int) + s2 + s3 + s4 by omega]
  rfl
end Go.Proofs.YtoajbjeiplolnaaDoorR.Pg
