/- Package class: Of; besomref1.Class. -/
import Derived.Test.YtoajbjeiplolnaaDoorRClsS
namespace Go.Proofs.YtoajbjeiplolnaaDoorR.Cls
open Go.RowKit
set_option linter.unusedSimpArgs false

theorem of_any (n : Int) (w : World) : Calls Tryd.prog 100 #[.int .i64 n] w fun e w' => e = .returned (.int .i64 (cof n)) ∧ w = w' := by
  go_enter Tryd.func100, Tryd.ntmps100
  go_wp2
  go_loop [4] (fun i => ∃ k : Nat, k ≤ 8 ∧ i = .int .i64 k ∧ ∀ j : Nat, j < k → (1 ≤ n → csz j < n)) (fun i => 8 - (intOf i).toNat)
  case atStart => exact ⟨0, by omega, rfl, fun j hj => by omega⟩
  case round =>
    obtain ⟨k, hk, rfl, hj⟩ := hrel
    have HJ := Lib.hid hj
    clear hj
    by_cases hlt : k < 8
    · by_cases h1 : 1 ≤ n
      · by_cases h2 : n ≤ csz k
        · go_wp2_with fail
          refine (size_any _ _).mono ?_
          rintro e w1 ⟨rfl, rfl⟩
          dsimp only
          go_wp2
          go_ret
          exact ⟨ret_int (cof_is hlt h1 h2 (fun j hj => HJ.out j hj h1)).symm, rfl⟩
        · go_wp2_with fail
          refine (size_any _ _).mono ?_
          rintro e w1 ⟨rfl, rfl⟩
          dsimp only
          go_wp2
          refine ⟨⟨k + 1, by omega, by go_num, fun j hj _ => ?_⟩, by simp [intOf]; omega⟩
          by_cases hjk : j = k
          · subst hjk; omega
          · exact HJ.out j (by omega) h1
      · go_wp2
        refine ⟨⟨k + 1, by omega, by go_num, fun j hj h => absurd h h1⟩, by simp [intOf]; omega⟩
    · obtain rfl : k = 8 := by omega
      go_wp2
      go_ret
      refine ⟨ret_int (cof_no ?_).symm, rfl⟩
      by_cases h1 : n < 1
      · exact .inl h1
      · have := HJ.out 7 (by omega) (by omega)
        simp [csz] at this
        omega

theorem rclass_any (n : Int) (w : World) : Calls Tryd.prog 44 #[.int .i64 n] w fun e w' => e = .returned (.int .i64 (cof n)) ∧ Below w.heap.size w w' := by
  go_enter Tryd.func44, Tryd.ntmps44
  go_wp2
  go_loopw [3] (fun i wr => ∃ k : Nat, k ≤ 8 ∧ i = .int .i64 k ∧ (∀ j : Nat, j < k → (1 ≤ n → csz j < n)) ∧ Below w.heap.size w wr) (fun i _ => 8 - (intOf i).toNat)
  case atStart => exact ⟨0, by omega, rfl, fun j hj => by omega, Below.refl _ _⟩
  case round =>
    obtain ⟨k, hk, rfl, hj, hw⟩ := hrel
    have HJ := Lib.hid hj
    clear hj
    by_cases hlt : k < 8
    · by_cases h1 : 1 ≤ n
      · by_cases h2 : n ≤ csz k
        · go_wp2_with fail
          refine (rsize_any _ _).mono ?_
          rintro e w1 ⟨rfl, hb⟩
          dsimp only
          go_wp2
          go_ret
          exact ⟨ret_int (cof_is hlt h1 h2 (fun j hj => HJ.out j hj h1)).symm, fresh_call hw hb⟩
        · go_wp2_with fail
          refine (rsize_any _ _).mono ?_
          rintro e w1 ⟨rfl, hb⟩
          dsimp only
          go_wp2
          refine ⟨⟨k + 1, by omega, by go_num, fun j hj _ => ?_, fresh_call hw hb⟩, by simp [intOf]; omega⟩
          by_cases hjk : j = k
          · subst hjk; omega
          · exact HJ.out j (by omega) h1
      · go_wp2
        refine ⟨⟨k + 1, by omega, by go_num, fun j hj h => absurd h h1, hw⟩, by simp [intOf]; omega⟩
    · obtain rfl : k = 8 := by omega
      go_wp2
      go_ret
      refine ⟨ret_int (cof_no ?_).symm, hw⟩
      by_cases h1 : n < 1
      · exact .inl h1
      · have := HJ.out 7 (by omega) (by omega)
        simp [csz] at this
        omega

end Go.Proofs.YtoajbjeiplolnaaDoorR.Cls
