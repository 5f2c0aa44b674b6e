/- The walk of besomlaw13.StackApart: it returns true, and writes nothing that was there. -/
import Derived.Test.YtpdleckflcangaaStkA
namespace Go.Proofs.Ytpdleckflcangaa.StackApart
open Go.RowKit Stk
set_option linter.unusedSimpArgs false
set_option linter.unusedVariables false

theorem kk (k m : Int) (m0 : 1 ≤ m) (m1 : m ≤ 4096) : ∃ j : Nat, (wrap64 (k.tmod m + m)).tmod m = (j : Int) ∧ (j : Int) < m := by
  have h1 := Int.tmod_lt_of_pos k (show 0 < m by omega)
  have h2 := Int.lt_tmod_of_pos k (show 0 < m by omega)
  rw [wrap64_id (by omega)]
  have h3 := Int.tmod_lt_of_pos (k.tmod m + m) (show 0 < m by omega)
  have h4 := Int.tmod_nonneg (a := k.tmod m + m) m (by omega)
  obtain ⟨j, hj⟩ := Int.eq_ofNat_of_zero_le h4
  exact ⟨j, hj, by omega⟩

set_option maxRecDepth 100000 in
set_option maxHeartbeats 1000000 in
theorem early (a b m n k : Int) (w : World) (h : a < 0 ∨ b < 0 ∨ 100000 < a ∨ 100000 < b ∨ a = b ∨ m < 1 ∨ n < 1 ∨ 4096 < m ∨ 4096 < n) :
    Calls Try.prog 3 #[.int .i64 a, .int .i64 b, .int .i64 m, .int .i64 n, .int .i64 k] w fun e w' => e = .returned (.bool true) ∧ Below w.heap.size w w' := by
  by_cases h0 : a < 0
  · clear h
    go_enter Try.func3, Try.ntmps3
    go_wp2_with fail
    refine (alive _).mono ?_
    rintro e w1 ⟨rfl, hb⟩
    dsimp only
    go_wp2
    go_ret
    exact ⟨rfl, hb⟩
  by_cases h1 : b < 0
  · clear h
    go_enter Try.func3, Try.ntmps3
    go_wp2_with fail
    refine (alive _).mono ?_
    rintro e w1 ⟨rfl, hb⟩
    dsimp only
    go_wp2
    go_ret
    exact ⟨rfl, hb⟩
  by_cases h2 : 100000 < a
  · clear h
    go_enter Try.func3, Try.ntmps3
    go_wp2_with fail
    refine (alive _).mono ?_
    rintro e w1 ⟨rfl, hb⟩
    dsimp only
    go_wp2
    go_ret
    exact ⟨rfl, hb⟩
  by_cases h3 : 100000 < b
  · clear h
    go_enter Try.func3, Try.ntmps3
    go_wp2_with fail
    refine (alive _).mono ?_
    rintro e w1 ⟨rfl, hb⟩
    dsimp only
    go_wp2
    go_ret
    exact ⟨rfl, hb⟩
  by_cases h4 : a = b
  · clear h
    subst h4
    go_enter Try.func3, Try.ntmps3
    go_wp2_with fail
    refine (alive _).mono ?_
    rintro e w1 ⟨rfl, hb⟩
    dsimp only
    go_wp2
    go_ret
    exact ⟨rfl, hb⟩
  have h4' : (a == b) = false := by simpa using h4
  by_cases h5 : m < 1
  · clear h
    go_enter Try.func3, Try.ntmps3
    go_wp2_with fail
    refine (alive _).mono ?_
    rintro e w1 ⟨rfl, hb⟩
    dsimp only
    go_wp2
    go_ret
    exact ⟨rfl, hb⟩
  by_cases h6 : n < 1
  · clear h
    go_enter Try.func3, Try.ntmps3
    go_wp2_with fail
    refine (alive _).mono ?_
    rintro e w1 ⟨rfl, hb⟩
    dsimp only
    go_wp2
    go_ret
    exact ⟨rfl, hb⟩
  by_cases h7 : 4096 < m
  · clear h
    go_enter Try.func3, Try.ntmps3
    go_wp2_with fail
    refine (alive _).mono ?_
    rintro e w1 ⟨rfl, hb⟩
    dsimp only
    go_wp2
    go_ret
    exact ⟨rfl, hb⟩
  by_cases h8 : 4096 < n
  · clear h
    go_enter Try.func3, Try.ntmps3
    go_wp2_with fail
    refine (alive _).mono ?_
    rintro e w1 ⟨rfl, hb⟩
    dsimp only
    go_wp2
    go_ret
    exact ⟨rfl, hb⟩
  omega

set_option maxRecDepth 100000 in
set_option maxHeartbeats 1000000 in
theorem core (a b m n k : Int) (w : World) (a0 : 0 ≤ a) (a1 : a ≤ 100000) (b0 : 0 ≤ b) (b1 : b ≤ 100000) (hab : (a == b) = false) (m0 : 1 ≤ m) (m1 : m ≤ 4096) (n0 : 1 ≤ n) (n1 : n ≤ 4096) :
    Calls Try.prog 3 #[.int .i64 a, .int .i64 b, .int .i64 m, .int .i64 n, .int .i64 k] w fun e w' => e = .returned (.bool true) ∧ Below w.heap.size w w' := by
  go_enter Try.func3, Try.ntmps3
  go_wp2_with fail
  refine (alive _).mono ?_
  rintro e w0 ⟨rfl, hb⟩
  dsimp only
  go_wp2_with fail
  refine (new_any _ _ _).mono ?_
  rw [show min (max a 0) 100000 = a by omega, show min (max m 1) 4096 = m by omega]
  rintro e w1 ⟨rfl, h1, hb1⟩
  have hw1 := fresh_call hb hb1
  have H1 := Lib.hid h1
  clear h1 hb hb1
  dsimp only
  go_wp2_with fail
  refine (new_any _ _ _).mono ?_
  rw [show min (max b 0) 100000 = b by omega, show min (max n 1) 4096 = n by omega]
  rintro e w2 ⟨rfl, h2, hb2⟩
  have H2 := Lib.hid h2
  have HS := Lib.hid (H1.out.below hb2)
  have hw2 := fresh_call hw1 hb2
  clear h2 H1 hb2 hw1
  dsimp only
  go_wp2_with fail
  obtain ⟨j, hj, hjm⟩ := kk k m m0 m1
  rw [hj]
  have hne : ¬ a = b := by simpa using hab
  have HNE := Lib.hid hne
  clear hj hne
  have ha2 : 0 ≤ 1073741824 + a * 8192 := by omega
  have ha3 : 1073741824 + a * 8192 ≤ 4000000000 := by omega
  refine (addr_yes _ _ _ _ j _ HS.out (by simp; omega) ⟨ha2, ha3⟩).mono ?_
  rintro e w3 ⟨rfl, rfl⟩
  dsimp only
  go_wp2_with fail
  refine (off_out _ _ _ _ _ _ H2.out (by omega) (by simp only [List.length_replicate]; have := HNE.out; omega)).mono ?_
  rintro e w3 ⟨rfl, q1, rfl⟩
  dsimp only
  go_wp2_with fail
  refine (addr_yes _ _ _ _ j _ (HS.out.drewN q1) (by simp; omega) ⟨ha2, ha3⟩).mono ?_
  rintro e w3 ⟨rfl, rfl⟩
  dsimp only
  go_wp2_with fail
  refine (off_in _ _ _ _ j _ (HS.out.drewN q1) (by simp; omega) ⟨ha2, ha3⟩ _ rfl).mono ?_
  rintro e w3 ⟨rfl, q2, rfl⟩
  dsimp only
  go_wp2_with fail
  refine (addr_yes _ _ _ _ j _ (HS.out.drewN (q1 + q2)) (by simp; omega) ⟨ha2, ha3⟩).mono ?_
  rintro e w3 ⟨rfl, rfl⟩
  have hge : decide ((1073741824 : Int) ≤ 1073741824 + a * 8192 + (j : Int)) = true := by simp; omega
  dsimp only
  go_wp2_with fail
  go_ret
  exact ⟨rfl, below_drewN hw2 (q1 + q2)⟩

theorem walk (a b m n k : Int) (w : World) (_wa : (Lit.int .i64 a).wf = true) (_wb : (Lit.int .i64 b).wf = true) (_wm : (Lit.int .i64 m).wf = true) (_wn : (Lit.int .i64 n).wf = true) (_wk : (Lit.int .i64 k).wf = true) :
    Calls Try.prog 3 #[.int .i64 a, .int .i64 b, .int .i64 m, .int .i64 n, .int .i64 k] w fun e w' => e = .returned (.bool true) ∧ Below w.heap.size w w' := by
  by_cases h : a < 0 ∨ b < 0 ∨ 100000 < a ∨ 100000 < b ∨ a = b ∨ m < 1 ∨ n < 1 ∨ 4096 < m ∨ 4096 < n
  · exact early a b m n k w h
  · exact core a b m n k w (by omega) (by omega) (by omega) (by omega) (by simp; omega) (by omega) (by omega) (by omega) (by omega)
end Go.Proofs.Ytpdleckflcangaa.StackApart
