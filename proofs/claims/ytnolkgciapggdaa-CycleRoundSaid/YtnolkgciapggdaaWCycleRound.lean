/- The walk of besomlaw22.CycleRound: it returns true, and writes nothing that was there. -/
import Derived.Test.YtnolkgciapggdaaCycA
import Derived.Test.YtnolkgciapggdaaArgs
namespace Go.Proofs.Ytnolkgciapggdaa.CycleRound
open Go.RowKit Cyc
set_option linter.unusedSimpArgs false

def Rel (n : Int) (b : Nat) (w : World) (i : Value) (wr : World) : Prop := ∃ (k : Nat) (s : Int), (k : Int) ≤ n ∧ i = .int .i64 k ∧ 0 ≤ s ∧ s ≤ 1099511627976 ∧ Blk wr b #[.int .i64 0, .int .i64 k, .int .i64 s] 29 ∧ Below w.heap.size w wr

set_option maxRecDepth 100000 in
theorem early (n g t : Int) (w : World) (h : n < 0 ∨ 100 < n ∨ g < 0 ∨ 1099511627776 < g ∨ t < 1 ∨ 1099511627776 < t) :
    Calls Try.prog 5 #[.int .i64 n, .int .i64 g, .int .i64 t] w fun e w' => e = .returned (.bool true) ∧ Below w.heap.size w w' := by
  by_cases h0 : n < 0
  · clear h
    go_enter Try.func5, Try.ntmps5
    go_wp2_with fail
    refine (alive _).mono ?_
    rintro e w1 ⟨rfl, hb⟩
    dsimp only
    go_wp2
    go_ret
    exact ⟨rfl, hb⟩
  by_cases h1 : 100 < n
  · clear h
    go_enter Try.func5, Try.ntmps5
    go_wp2_with fail
    refine (alive _).mono ?_
    rintro e w1 ⟨rfl, hb⟩
    dsimp only
    go_wp2
    go_ret
    exact ⟨rfl, hb⟩
  by_cases h2 : g < 0
  · clear h
    go_enter Try.func5, Try.ntmps5
    go_wp2_with fail
    refine (alive _).mono ?_
    rintro e w1 ⟨rfl, hb⟩
    dsimp only
    go_wp2
    go_ret
    exact ⟨rfl, hb⟩
  by_cases h3 : 1099511627776 < g
  · clear h
    go_enter Try.func5, Try.ntmps5
    go_wp2_with fail
    refine (alive _).mono ?_
    rintro e w1 ⟨rfl, hb⟩
    dsimp only
    go_wp2
    go_ret
    exact ⟨rfl, hb⟩
  by_cases h4 : t < 1
  · clear h
    go_enter Try.func5, Try.ntmps5
    go_wp2_with fail
    refine (alive _).mono ?_
    rintro e w1 ⟨rfl, hb⟩
    dsimp only
    go_wp2
    go_ret
    exact ⟨rfl, hb⟩
  by_cases h5 : 1099511627776 < t
  · clear h
    go_enter Try.func5, Try.ntmps5
    go_wp2_with fail
    refine (alive _).mono ?_
    rintro e w1 ⟨rfl, hb⟩
    dsimp only
    go_wp2
    go_ret
    exact ⟨rfl, hb⟩
  omega

set_option maxRecDepth 100000 in
set_option maxHeartbeats 1000000 in
theorem walk (n g t : Int) (w : World) (wn : (Lit.int .i64 n).wf = true) (wg : (Lit.int .i64 g).wf = true) (wt : (Lit.int .i64 t).wf = true) :
    Calls Try.prog 5 #[.int .i64 n, .int .i64 g, .int .i64 t] w fun e w' => e = .returned (.bool true) ∧ Below w.heap.size w w' := by
  clear wn wg wt
  by_cases h : n < 0 ∨ 100 < n ∨ g < 0 ∨ 1099511627776 < g ∨ t < 1 ∨ 1099511627776 < t
  · exact early n g t w h
  have h0 : 0 ≤ n := by omega
  have h1 : n ≤ 100 := by omega
  have h2 : 0 ≤ g := by omega
  have h3 : g ≤ 1099511627776 := by omega
  have h4 : 1 ≤ t := by omega
  have h5 : t ≤ 1099511627776 := by omega
  clear h
  go_enter Try.func5, Try.ntmps5
  go_wp2_with fail
  refine (alive _).mono ?_
  rintro e w1 ⟨rfl, hb⟩
  have B := Blk.new w1 #[.int .i64 0, .int .i64 0, .int .i64 0] 29
  have hw := fresh_alloc hb (.cells #[.int .i64 0, .int .i64 0, .int .i64 0] 29)
  have hw1 : w.heap.size ≤ w1.heap.size := hb.size
  clear hb
  dsimp only
  go_wp2_with fail
  generalize w1.alloc (.cells #[.int .i64 0, .int .i64 0, .int .i64 0] 29) = w2 at *
  go_loopw [8] (fun i wr => Rel n w1.heap.size w i wr) (fun i _ => n.toNat - (intOf i).toNat)
  case atStart => exact ⟨0, 0, h0, rfl, by omega, by omega, B, hw⟩
  case round =>
    clear B hw
    obtain ⟨k, s, hk, rfl, hs0, hs1, B, hw⟩ := hrel
    by_cases hlt : (k : Int) < n
    · have hcw : wrap64 ((k : Int) + 1) = (k : Int) + 1 := wrap64_id (by omega)
      have Hcw := Lib.hid hcw
      clear hcw
      obtain ⟨B0, B1, B2, B3, B4, B5⟩ := B.three
      have Blt := B.lt
      go_wp2_with fail
      refine (marked_no _ _ _ _ (by decide)).mono ?_
      rintro e x0 ⟨rfl, hb⟩
      clear B0 B1 B2 B3 B4 B5 Blt
      replace B := B.call hb
      replace hw := fresh_call hw hb
      clear hb
      dsimp only
      obtain ⟨B0, B1, B2, B3, B4, B5⟩ := B.three
      have Blt := B.lt
      go_wp2_with fail
      refine (swept_no _ _ _ _ (by decide)).mono ?_
      rintro e x1 ⟨rfl, hb⟩
      clear B0 B1 B2 B3 B4 B5 Blt
      replace B := (B.alloc _).call hb
      replace hw := fresh_call (fresh_alloc hw _) hb
      clear hb
      dsimp only
      obtain ⟨B0, B1, B2, B3, B4, B5⟩ := B.three
      have Blt := B.lt
      go_wp2_with fail
      refine (begin_yes _ _ _ _).mono ?_
      rintro e x2 ⟨rfl, hb⟩
      clear B0 B1 B2 B3 B4 B5 Blt
      replace B := (B.alloc _).call hb
      replace hw := fresh_call (fresh_alloc hw _) hb
      clear hb
      dsimp only
      obtain ⟨B0, B1, B2, B3, B4, B5⟩ := B.three
      have Blt := B.lt
      go_wp2_with fail
      refine (begin_no _ _ _ _ _ (by decide)).mono ?_
      rintro e x3 ⟨rfl, hb⟩
      clear B0 B1 B2 B3 B4 B5 Blt
      replace B := (B.alloc _).call hb
      have Bt := (Blk.new x2 _ _).call hb
      replace hw := fresh_call (fresh_alloc hw _) hb
      clear hb
      dsimp only
      obtain ⟨B0, B1, B2, B3, B4, B5⟩ := B.three
      have Blt := B.lt
      obtain ⟨Bt0, Bt1, Bt2, Bt3, Bt4, Bt5⟩ := Bt.three
      have Btlt := Bt.lt
      go_wp2_with fail
      refine (swept_no _ _ _ _ (by decide)).mono ?_
      rintro e x4 ⟨rfl, hb⟩
      clear B0 B1 B2 B3 B4 B5 Blt Bt0 Bt1 Bt2 Bt3 Bt4 Bt5 Btlt
      replace B := (B.alloc _).call hb
      replace Bt := (Bt.alloc _).call hb
      replace hw := fresh_call (fresh_alloc hw _) hb
      clear hb
      dsimp only
      obtain ⟨B0, B1, B2, B3, B4, B5⟩ := B.three
      have Blt := B.lt
      obtain ⟨Bt0, Bt1, Bt2, Bt3, Bt4, Bt5⟩ := Bt.three
      have Btlt := Bt.lt
      go_wp2_with fail
      refine (marked_yes _ _ _).mono ?_
      rintro e x5 ⟨rfl, hb⟩
      clear B0 B1 B2 B3 B4 B5 Blt Bt0 Bt1 Bt2 Bt3 Bt4 Bt5 Btlt
      replace B := (B.alloc _).call hb
      replace Bt := (Bt.alloc _).call hb
      replace hw := fresh_call (fresh_alloc hw _) hb
      clear hb
      dsimp only
      obtain ⟨B0, B1, B2, B3, B4, B5⟩ := B.three
      have Blt := B.lt
      obtain ⟨Bt0, Bt1, Bt2, Bt3, Bt4, Bt5⟩ := Bt.three
      have Btlt := Bt.lt
      go_wp2_with fail
      refine (marked_no _ _ _ _ (by decide)).mono ?_
      rintro e x6 ⟨rfl, hb⟩
      clear B0 B1 B2 B3 B4 B5 Blt Bt0 Bt1 Bt2 Bt3 Bt4 Bt5 Btlt
      replace B := (B.alloc _).call hb
      replace Bt := (Bt.alloc _).call hb
      have Bu := (Blk.new x5 _ _).call hb
      replace hw := fresh_call (fresh_alloc hw _) hb
      clear hb
      dsimp only
      obtain ⟨B0, B1, B2, B3, B4, B5⟩ := B.three
      have Blt := B.lt
      obtain ⟨Bt0, Bt1, Bt2, Bt3, Bt4, Bt5⟩ := Bt.three
      have Btlt := Bt.lt
      obtain ⟨Bu0, Bu1, Bu2, Bu3, Bu4, Bu5⟩ := Bu.three
      have Bult := Bu.lt
      go_wp2_with fail
      refine (begin_no _ _ _ _ _ (by decide)).mono ?_
      rintro e x7 ⟨rfl, hb⟩
      clear B0 B1 B2 B3 B4 B5 Blt Bt0 Bt1 Bt2 Bt3 Bt4 Bt5 Btlt Bu0 Bu1 Bu2 Bu3 Bu4 Bu5 Bult
      replace B := (B.alloc _).call hb
      replace Bt := (Bt.alloc _).call hb
      replace Bu := (Bu.alloc _).call hb
      replace hw := fresh_call (fresh_alloc hw _) hb
      clear hb
      dsimp only
      obtain ⟨B0, B1, B2, B3, B4, B5⟩ := B.three
      have Blt := B.lt
      obtain ⟨Bt0, Bt1, Bt2, Bt3, Bt4, Bt5⟩ := Bt.three
      have Btlt := Bt.lt
      obtain ⟨Bu0, Bu1, Bu2, Bu3, Bu4, Bu5⟩ := Bu.three
      have Bult := Bu.lt
      go_wp2_with fail
      refine (swept_lo _ _ _ (by omega)).mono ?_
      rw [Hcw.out]
      rintro e x8 ⟨rfl, hb⟩
      clear B0 B1 B2 B3 B4 B5 Blt Bt0 Bt1 Bt2 Bt3 Bt4 Bt5 Btlt Bu0 Bu1 Bu2 Bu3 Bu4 Bu5 Bult
      replace B := (B.alloc _).call hb
      replace Bt := (Bt.alloc _).call hb
      replace Bu := (Bu.alloc _).call hb
      replace hw := fresh_call (fresh_alloc hw _) hb
      clear hb
      dsimp only
      obtain ⟨B0, B1, B2, B3, B4, B5⟩ := B.three
      have Blt := B.lt
      obtain ⟨Bt0, Bt1, Bt2, Bt3, Bt4, Bt5⟩ := Bt.three
      have Btlt := Bt.lt
      obtain ⟨Bu0, Bu1, Bu2, Bu3, Bu4, Bu5⟩ := Bu.three
      have Bult := Bu.lt
      go_wp2_with fail
      refine (due_busy _ _ _ _ _ _ (by decide)).mono ?_
      rintro e x9 ⟨rfl, hb⟩
      clear B0 B1 B2 B3 B4 B5 Blt Bt0 Bt1 Bt2 Bt3 Bt4 Bt5 Btlt Bu0 Bu1 Bu2 Bu3 Bu4 Bu5 Bult
      replace B := (B.alloc _).call hb
      replace Bt := (Bt.alloc _).call hb
      replace Bu := (Bu.alloc _).call hb
      have Bv := (Blk.new x8 _ _).call hb
      replace hw := fresh_call (fresh_alloc hw _) hb
      clear hb
      dsimp only
      obtain ⟨B0, B1, B2, B3, B4, B5⟩ := B.three
      have Blt := B.lt
      obtain ⟨Bt0, Bt1, Bt2, Bt3, Bt4, Bt5⟩ := Bt.three
      have Btlt := Bt.lt
      obtain ⟨Bu0, Bu1, Bu2, Bu3, Bu4, Bu5⟩ := Bu.three
      have Bult := Bu.lt
      obtain ⟨Bv0, Bv1, Bv2, Bv3, Bv4, Bv5⟩ := Bv.three
      have Bvlt := Bv.lt
      go_wp2_with fail
      refine (due_busy _ _ _ _ _ _ (by decide)).mono ?_
      rintro e x10 ⟨rfl, hb⟩
      clear B0 B1 B2 B3 B4 B5 Blt Bt0 Bt1 Bt2 Bt3 Bt4 Bt5 Btlt Bu0 Bu1 Bu2 Bu3 Bu4 Bu5 Bult Bv0 Bv1 Bv2 Bv3 Bv4 Bv5 Bvlt
      replace B := B.call hb
      replace Bt := Bt.call hb
      replace Bu := Bu.call hb
      replace Bv := Bv.call hb
      replace hw := fresh_call hw hb
      clear hb
      dsimp only
      obtain ⟨B0, B1, B2, B3, B4, B5⟩ := B.three
      have Blt := B.lt
      obtain ⟨Bt0, Bt1, Bt2, Bt3, Bt4, Bt5⟩ := Bt.three
      have Btlt := Bt.lt
      obtain ⟨Bu0, Bu1, Bu2, Bu3, Bu4, Bu5⟩ := Bu.three
      have Bult := Bu.lt
      obtain ⟨Bv0, Bv1, Bv2, Bv3, Bv4, Bv5⟩ := Bv.three
      have Bvlt := Bv.lt
      go_wp2_with fail
      refine ⟨⟨k + 1, g + k, by omega, by go_num, by omega, by omega, ?_, ?_⟩, by simp [intOf]; omega⟩
      · refine Blk.of_eq (by repeat (first | with_reducible exact B | apply Blk.set)) (by simp)
      · repeat (first | with_reducible exact hw | refine Below.setCell ?_ (by first | (simp; done) | (simp; omega)) _)
    · have hkn : n = k := by omega
      have H := Lib.hid hkn
      clear hkn
      have hne : ((k : Int) == n) = true := by have := H.out; simp [this]
      have e1 : decide (t ≤ s + t - s) = true := by simp; omega
      have e2 : decide (t ≤ s + t - 1 - s) = false := by simp; omega
      obtain ⟨B0, B1, B2, B3, B4, B5⟩ := B.three
      have E1 := Lib.hid e1
      have E2 := Lib.hid e2
      clear e1 e2
      go_wp2_with fail
      refine (due_idle _ _ _ _ _ (by omega) (by omega)).mono ?_
      rw [E1.out]
      rintro e w3 ⟨rfl, hb⟩
      clear B0 B1 B2 B3 B4 B5
      replace B := B.call hb
      replace hw := fresh_call hw hb
      obtain ⟨B0, B1, B2, B3, B4, B5⟩ := B.three
      clear hb
      dsimp only
      go_wp2_with fail
      refine (due_idle _ _ _ _ _ (by omega) (by omega)).mono ?_
      rw [E2.out]
      rintro e w4 ⟨rfl, hb⟩
      replace hw := fresh_call hw hb
      dsimp only
      go_wp2
      go_ret
      exact ⟨rfl, hw⟩
end Go.Proofs.Ytnolkgciapggdaa.CycleRound
