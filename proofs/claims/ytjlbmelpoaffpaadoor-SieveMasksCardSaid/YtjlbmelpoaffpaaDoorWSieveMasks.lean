/- The walk of besomlaw1.SieveMasks: it returns true, and writes nothing that was there. -/
import Derived.Test.YtjlbmelpoaffpaaDoorSvA
namespace Go.Proofs.YtjlbmelpoaffpaaDoor.SieveMasks
open Go.RowKit Sv Wd
set_option linter.unusedSimpArgs false
set_option linter.unusedVariables false

theorem bit_at {m i : Nat} (hm : m < 18446744073709551616) {b : Bool} (h : m.testBit i = b) : bits BinOp.and IntKind.u64 ((m : Int) / 2 ^ i) 1 = if b then 1 else 0 := by
  have e : (m : Int) / 2 ^ i = ((m / 2 ^ i : Nat) : Int) := by rw [Int.natCast_ediv]; simp
  have h1 := and64 (m / 2 ^ i) 1 (Nat.lt_of_le_of_lt (Nat.div_le_self _ _) hm) (by omega)
  rw [show ((1 : Nat) : Int) = 1 from rfl] at h1
  rw [e, h1, and1]
  rw [Nat.testBit_eq_decide_div_mod_eq] at h
  subst h
  by_cases h2 : m / 2 ^ i % 2 = 1
  · simp [h2]
  · have : m / 2 ^ i % 2 = 0 := by omega
    simp [this]
theorem walk (x y : Int) (w : World) (hT : Tab w) (_w0 : (Lit.int .i64 x).wf = true) (_w1 : (Lit.int .i64 y).wf = true) :
    Calls Tryd.prog 3 #[.int .i64 x, .int .i64 y] w fun e w' => e = .returned (.bool true) ∧ Below w.heap.size w w' := by
  have HT := Lib.hid hT
  have HML := Lib.hid (mk_lt x y)
  have HMB := Lib.hid (fun i (hi : i < 64) => mk_bit x y hi)
  clear hT _w0 _w1
  go_enter Tryd.func3, Tryd.ntmps3
  go_wp2_with fail
  refine (alive _ HT.out).mono ?_
  rintro e w1 ⟨rfl, hb1⟩
  have HB1 := Lib.hid hb1
  clear hb1
  dsimp only
  go_wp2_with fail
  refine (mask_any x y _).mono ?_
  rintro e w2 ⟨rfl, rfl⟩
  generalize mk x y = m at *
  dsimp only
  go_wp2_with fail
  go_loopw [6] (fun i wr => ∃ k : Nat, k ≤ 64 ∧ i = .int .i64 (k : Int) ∧ w1 = wr) (fun i _ => 64 - (intOf i).toNat)
  case atStart => exact ⟨0, by omega, rfl, rfl⟩
  case round =>
    obtain ⟨k, hk, rfl, rfl⟩ := hrel
    by_cases hlt : k < 64
    · have h3 : (k : Int) < 64 := by omega
      have h4 : (0 : Int) ≤ (k : Int) := by omega
      have hmb := HMB.out k hlt
      by_cases h1 : x ≤ (k : Int)
      · by_cases h2 : (k : Int) < y
        · have HA := Lib.hid (bit_at HML.out (hmb.trans (show _ = true by simp [h1, h2])))
          clear hmb
          go_wp2_with (simp only [HA.out])
          go_roundw
          case rel => exact ⟨k + 1, by omega, by go_num, trivial⟩
          case measure => simp [intOf]; omega
        · have HA := Lib.hid (bit_at HML.out (hmb.trans (show _ = false by simp [h1, h2])))
          clear hmb
          go_wp2_with (simp only [HA.out])
          go_roundw
          case rel => exact ⟨k + 1, by omega, by go_num, trivial⟩
          case measure => simp [intOf]; omega
      · have HA := Lib.hid (bit_at HML.out (hmb.trans (show _ = false by simp [h1])))
        clear hmb
        go_wp2_with (simp only [HA.out])
        go_roundw
        case rel => exact ⟨k + 1, by omega, by go_num, trivial⟩
        case measure => simp [intOf]; omega
    · have h3 : ¬ (k : Int) < 64 := by omega
      go_wp2_with fail
      go_ret
      exact ⟨rfl, HB1.out⟩
end Go.Proofs.YtjlbmelpoaffpaaDoor.SieveMasks
