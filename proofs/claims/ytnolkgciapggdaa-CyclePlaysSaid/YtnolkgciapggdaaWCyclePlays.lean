/- The walk of besomlaw22.CyclePlays: it returns true, and writes nothing that was there. -/
import Derived.Test.YtnolkgciapggdaaCycA
import Derived.Test.YtnolkgciapggdaaArgs
namespace Go.Proofs.Ytnolkgciapggdaa.CyclePlays
open Go.RowKit Cyc
set_option linter.unusedSimpArgs false

def Rel (len b : Nat) (w : World) (p c s i : Value) (wr : World) : Prop := ∃ (k : Nat) (P C S : Int), k ≤ len ∧ i = .int .i64 k ∧ p = .int .i64 P ∧ c = .int .i64 C ∧ s = .int .i64 S ∧
  -1099511627776 ≤ S ∧ S ≤ 1099511627776 ∧ Blk wr b #[.int .i64 P, .int .i64 C, .int .i64 S] 29 ∧ Below w.heap.size w wr

set_option maxRecDepth 100000 in
theorem early (p c s : Int) (A : Option Addr) (n cap : Nat) (g t : Int) (w : World) (hm : n ≤ 9223372036854775807) (h : 60 < n ∨ g < -1099511627776 ∨ 1099511627776 < g ∨ s < -1099511627776 ∨ 1099511627776 < s) :
    Calls Try.prog 4 #[.int .i64 p, .int .i64 c, .int .i64 s, .slice A n cap, .int .i64 g, .int .i64 t] w fun e w' => e = .returned (.bool true) ∧ Below w.heap.size w w' := by
  by_cases h0 : 60 < n
  · clear h
    go_enter Try.func4, Try.ntmps4
    go_wp2_with fail
    refine (alive _).mono ?_
    rintro e w1 ⟨rfl, hb⟩
    dsimp only
    go_wp2
    go_ret
    exact ⟨rfl, hb⟩
  by_cases h1 : g < -1099511627776
  · clear h
    go_enter Try.func4, Try.ntmps4
    go_wp2_with fail
    refine (alive _).mono ?_
    rintro e w1 ⟨rfl, hb⟩
    dsimp only
    go_wp2
    go_ret
    exact ⟨rfl, hb⟩
  by_cases h2 : 1099511627776 < g
  · clear h
    go_enter Try.func4, Try.ntmps4
    go_wp2_with fail
    refine (alive _).mono ?_
    rintro e w1 ⟨rfl, hb⟩
    dsimp only
    go_wp2
    go_ret
    exact ⟨rfl, hb⟩
  by_cases h3 : s < -1099511627776
  · clear h
    go_enter Try.func4, Try.ntmps4
    go_wp2_with fail
    refine (alive _).mono ?_
    rintro e w1 ⟨rfl, hb⟩
    dsimp only
    go_wp2
    go_ret
    exact ⟨rfl, hb⟩
  by_cases h4 : 1099511627776 < s
  · clear h
    go_enter Try.func4, Try.ntmps4
    go_wp2_with fail
    refine (alive _).mono ?_
    rintro e w1 ⟨rfl, hb⟩
    dsimp only
    go_wp2
    go_ret
    exact ⟨rfl, hb⟩
  omega

set_option maxRecDepth 100000 in
set_option maxHeartbeats 4000000 in
theorem walk (p c s : Int) (A : Option Addr) (n cap : Nat) (l : List (Value × Value)) (g t : Int) (w : World) (wp : (Lit.int .i64 p).wf = true) (wc : (Lit.int .i64 c).wf = true) (ws : (Lit.int .i64 s).wf = true)
    (hl : l.length = n) (wl : ∀ q ∈ l, (∃ z, q.1 = .int .i64 z ∧ (Lit.int .i64 z).wf = true) ∧ (∃ z, q.2 = .int .i64 z ∧ (Lit.int .i64 z).wf = true)) (R : Reads w w.heap.size 2 A n cap (pairCells l))
    (wg : (Lit.int .i64 g).wf = true) (wt : (Lit.int .i64 t).wf = true) :
    Calls Try.prog 4 #[.int .i64 p, .int .i64 c, .int .i64 s, .slice A n cap, .int .i64 g, .int .i64 t] w fun e w' => e = .returned (.bool true) ∧ Below w.heap.size w w' := by
  clear wp wc ws wg wt
  have hm : n ≤ 9223372036854775807 := by have := R.1; have := R.2.1; unfold maxLen at this; omega
  by_cases h : 60 < n ∨ g < -1099511627776 ∨ 1099511627776 < g ∨ s < -1099511627776 ∨ 1099511627776 < s
  · exact early p c s A n cap g t w hm h
  have h0 : n ≤ 60 := by omega
  have h1 : -1099511627776 ≤ g := by omega
  have h2 : g ≤ 1099511627776 := by omega
  have h3 : -1099511627776 ≤ s := by omega
  have h4 : s ≤ 1099511627776 := by omega
  have H := Lib.hid hl
  have HW := Lib.hid wl
  have HR := Lib.hid R
  clear h hl R wl
  go_enter Try.func4, Try.ntmps4
  go_wp2_with fail
  refine (alive _).mono ?_
  rintro e w1 ⟨rfl, hb⟩
  have B := Blk.new w1 #[.int .i64 p, .int .i64 c, .int .i64 s] 29
  have hw := fresh_alloc hb (.cells #[.int .i64 p, .int .i64 c, .int .i64 s] 29)
  have hw1 : w.heap.size ≤ w1.heap.size := hb.size
  clear hb
  dsimp only
  go_wp2_with fail
  generalize w1.alloc (.cells #[.int .i64 p, .int .i64 c, .int .i64 s] 29) = w2 at *
  go_loopw [0, 1, 2, 14] (fun p c s i wr => Rel n w1.heap.size w p c s i wr) (fun _ _ _ i _ => n - (intOf i).toNat)
  case atStart => exact ⟨0, p, c, s, Nat.zero_le _, rfl, rfl, rfl, rfl, h3, h4, B, hw⟩
  case round =>
    clear B hw
    obtain ⟨k, P, C, S, hk, rfl, rfl, rfl, rfl, hS1, hS2, B, hw⟩ := hrel
    by_cases hlt : k < n
    · have hkz : k < l.length := by have := H.out; omega
      obtain ⟨b, off, rfl, hbl, hcell0⟩ := (HR.out.below hw).at_ (pairCells_at (List.getElem?_eq_getElem hkz)).1
      obtain ⟨b', off', hA, hbl', hcell1⟩ := (HR.out.below hw).at_ (pairCells_at (List.getElem?_eq_getElem hkz)).2
      cases hA
      obtain ⟨⟨kd, hkd, _⟩, ⟨N, hN, _⟩⟩ := HW.out l[k] (List.getElem_mem hkz)
      rw [hkd] at hcell0
      rw [hN] at hcell1
      rw [← Nat.add_assoc] at hcell1
      clear hkd hN hbl'
      have hbr : b < wr.heap.size := by have := hw.size; omega
      have hB := B.lt
      obtain ⟨a0, a1, a2, a3, a4, a5⟩ := B.three
      by_cases hk1 : kd = 1
      · subst hk1
        by_cases hN0 : N < -1099511627776
        · go_wp2
          go_ret
          exact ⟨rfl, fresh_alloc (fresh_alloc hw _) _⟩
        by_cases hN1 : 1099511627776 < N
        · go_wp2
          go_ret
          exact ⟨rfl, fresh_alloc (fresh_alloc hw _) _⟩
        by_cases hp : P = 0
        · subst hp
          go_wp2_with fail
          refine (begin_yes _ _ _ _).mono ?_
          rintro e w3 ⟨rfl, hb⟩
          have B2 := ((B.alloc _).alloc _).call hb
          have B3 := ((Blk.new wr _ _).alloc _).call hb
          have B4 := (Blk.new (wr.alloc _) _ _).call hb
          rw [World.size_alloc] at B4
          clear a0 a1 a2 a3 a4 a5
          obtain ⟨a0, a1, a2, a3, a4, a5⟩ := B2.three
          obtain ⟨b0, b1, b2, b3⟩ := B3.two
          obtain ⟨c0, c1, c2, c3, c4, c5⟩ := B4.three
          have hB2 := B2.lt
          have hB3 := B3.lt
          have hB4 := B4.lt
          have hw3 := fresh_call (fresh_alloc (fresh_alloc hw _) _) hb
          clear hb hcell0 hcell1
          dsimp only
          go_wp2_with fail
          go_quiet (fail)
          go_wp2_with fail
          refine (due_busy _ _ _ _ _ _ (by decide)).mono ?_
          rintro e w4 ⟨rfl, hb⟩
          have B5 := Blk.call (b := w1.heap.size) (by repeat (first | with_reducible exact B2 | with_reducible apply Blk.drewN | with_reducible apply Blk.set | (with_reducible apply Blk.other; rotate_left; (simp; omega)))) hb
          have B6 := Blk.call (b := wr.heap.size + 1) (by repeat (first | with_reducible exact B4 | with_reducible apply Blk.drewN | with_reducible apply Blk.set)) hb
          have hw4 := fresh_call (a := w) (by repeat (first | with_reducible exact hw3 | with_reducible refine below_drewN ?_ _ | (with_reducible refine Below.setCell ?_ ?_ _; rotate_left; (first | (simp; done) | (simp; omega))))) hb
          clear hb hw3 a0 a1 a2 a3 a4 a5 b0 b1 b2 b3 c0 c1 c2 c3 c4 c5
          obtain ⟨a0, a1, a2, a3, a4, a5⟩ := B5.three
          obtain ⟨c0, c1, c2, c3, c4, c5⟩ := B6.three
          dsimp only
          go_wp2_with fail
          refine ⟨⟨k + 1, 1, C, N, by omega, by go_num, rfl, rfl, rfl, by omega, by omega, ?_, ?_⟩, by simp [intOf]; omega⟩
          · refine Blk.of_eq (by repeat (first | with_reducible exact B5 | with_reducible apply Blk.set)) (by simp)
          · repeat (first | with_reducible exact hw4 | (with_reducible refine Below.setCell ?_ ?_ _; rotate_left; (first | (simp; done) | (simp; omega))))
        · have hz : (P == 0) = false := by simpa using hp
          go_wp2_with fail
          refine (begin_no _ _ _ _ _ hz).mono ?_
          rintro e w3 ⟨rfl, hb⟩
          have B2 := ((B.alloc _).alloc _).call hb
          have B3 := ((Blk.new wr _ _).alloc _).call hb
          have B4 := (Blk.new (wr.alloc _) _ _).call hb
          rw [World.size_alloc] at B4
          clear a0 a1 a2 a3 a4 a5
          obtain ⟨a0, a1, a2, a3, a4, a5⟩ := B2.three
          obtain ⟨b0, b1, b2, b3⟩ := B3.two
          obtain ⟨c0, c1, c2, c3, c4, c5⟩ := B4.three
          have hB2 := B2.lt
          have hB3 := B3.lt
          have hB4 := B4.lt
          have hw3 := fresh_call (fresh_alloc (fresh_alloc hw _) _) hb
          clear hb hcell0 hcell1
          dsimp only
          go_wp2_with fail
          refine (due_busy _ _ _ _ _ _ hz).mono ?_
          rintro e w4 ⟨rfl, hb⟩
          have B5 := Blk.call (b := w1.heap.size) (by repeat (first | with_reducible exact B2 | with_reducible apply Blk.drewN | with_reducible apply Blk.set | (with_reducible apply Blk.other; rotate_left; (simp; omega)))) hb
          have B6 := Blk.call (b := wr.heap.size + 1) (by repeat (first | with_reducible exact B4 | with_reducible apply Blk.drewN | with_reducible apply Blk.set)) hb
          have hw4 := fresh_call (a := w) (by repeat (first | with_reducible exact hw3 | with_reducible refine below_drewN ?_ _ | (with_reducible refine Below.setCell ?_ ?_ _; rotate_left; (first | (simp; done) | (simp; omega))))) hb
          clear hb hw3 a0 a1 a2 a3 a4 a5 b0 b1 b2 b3 c0 c1 c2 c3 c4 c5
          obtain ⟨a0, a1, a2, a3, a4, a5⟩ := B5.three
          obtain ⟨c0, c1, c2, c3, c4, c5⟩ := B6.three
          dsimp only
          go_wp2_with fail
          refine ⟨⟨k + 1, P, C, S, by omega, by go_num, rfl, rfl, rfl, by omega, by omega, ?_, ?_⟩, by simp [intOf]; omega⟩
          · refine Blk.of_eq (by repeat (first | with_reducible exact B5 | with_reducible apply Blk.set)) (by simp)
          · repeat (first | with_reducible exact hw4 | (with_reducible refine Below.setCell ?_ ?_ _; rotate_left; (first | (simp; done) | (simp; omega))))
      have e1 : (kd == 1) = false := by simpa using hk1
      by_cases hk2 : kd = 2
      · subst hk2
        by_cases hp : P = 1
        · subst hp
          go_wp2_with fail
          refine (marked_yes _ _ _).mono ?_
          rintro e w3 ⟨rfl, hb⟩
          have B2 := ((B.alloc _).alloc _).call hb
          have B3 := ((Blk.new wr _ _).alloc _).call hb
          have B4 := (Blk.new (wr.alloc _) _ _).call hb
          rw [World.size_alloc] at B4
          clear a0 a1 a2 a3 a4 a5
          obtain ⟨a0, a1, a2, a3, a4, a5⟩ := B2.three
          obtain ⟨b0, b1, b2, b3⟩ := B3.two
          obtain ⟨c0, c1, c2, c3, c4, c5⟩ := B4.three
          have hB2 := B2.lt
          have hB3 := B3.lt
          have hB4 := B4.lt
          have hw3 := fresh_call (fresh_alloc (fresh_alloc hw _) _) hb
          clear hb hcell0 hcell1
          dsimp only
          go_wp2_with fail
          refine (due_busy _ _ _ _ _ _ (by decide)).mono ?_
          rintro e w4 ⟨rfl, hb⟩
          have B5 := Blk.call (b := w1.heap.size) (by repeat (first | with_reducible exact B2 | with_reducible apply Blk.drewN | with_reducible apply Blk.set | (with_reducible apply Blk.other; rotate_left; (simp; omega)))) hb
          have B6 := Blk.call (b := wr.heap.size + 1) (by repeat (first | with_reducible exact B4 | with_reducible apply Blk.drewN | with_reducible apply Blk.set)) hb
          have hw4 := fresh_call (a := w) (by repeat (first | with_reducible exact hw3 | with_reducible refine below_drewN ?_ _ | (with_reducible refine Below.setCell ?_ ?_ _; rotate_left; (first | (simp; done) | (simp; omega))))) hb
          clear hb hw3 a0 a1 a2 a3 a4 a5 b0 b1 b2 b3 c0 c1 c2 c3 c4 c5
          obtain ⟨a0, a1, a2, a3, a4, a5⟩ := B5.three
          obtain ⟨c0, c1, c2, c3, c4, c5⟩ := B6.three
          dsimp only
          go_wp2_with fail
          refine ⟨⟨k + 1, 2, C, S, by omega, by go_num, rfl, rfl, rfl, by omega, by omega, ?_, ?_⟩, by simp [intOf]; omega⟩
          · refine Blk.of_eq (by repeat (first | with_reducible exact B5 | with_reducible apply Blk.set)) (by simp)
          · repeat (first | with_reducible exact hw4 | (with_reducible refine Below.setCell ?_ ?_ _; rotate_left; (first | (simp; done) | (simp; omega))))
        have hq : (P == 1) = false := by simpa using hp
        by_cases h0 : P = 0
        · subst h0
          go_wp2_with fail
          refine (marked_no _ _ _ _ hq).mono ?_
          rintro e w3 ⟨rfl, hb⟩
          have B2 := ((B.alloc _).alloc _).call hb
          have B3 := ((Blk.new wr _ _).alloc _).call hb
          have B4 := (Blk.new (wr.alloc _) _ _).call hb
          rw [World.size_alloc] at B4
          clear a0 a1 a2 a3 a4 a5
          obtain ⟨a0, a1, a2, a3, a4, a5⟩ := B2.three
          obtain ⟨b0, b1, b2, b3⟩ := B3.two
          obtain ⟨c0, c1, c2, c3, c4, c5⟩ := B4.three
          have hB2 := B2.lt
          have hB3 := B3.lt
          have hB4 := B4.lt
          have hw3 := fresh_call (fresh_alloc (fresh_alloc hw _) _) hb
          clear hb hcell0 hcell1
          dsimp only
          go_wp2_with fail
          refine (due_idle _ _ _ _ _ (by omega) (by omega)).mono ?_
          rintro e w4 ⟨rfl, hb⟩
          have B5 := Blk.call (b := w1.heap.size) (by repeat (first | with_reducible exact B2 | with_reducible apply Blk.drewN | with_reducible apply Blk.set | (with_reducible apply Blk.other; rotate_left; (simp; omega)))) hb
          have B6 := Blk.call (b := wr.heap.size + 1) (by repeat (first | with_reducible exact B4 | with_reducible apply Blk.drewN | with_reducible apply Blk.set)) hb
          have hw4 := fresh_call (a := w) (by repeat (first | with_reducible exact hw3 | with_reducible refine below_drewN ?_ _ | (with_reducible refine Below.setCell ?_ ?_ _; rotate_left; (first | (simp; done) | (simp; omega))))) hb
          clear hb hw3 a0 a1 a2 a3 a4 a5 b0 b1 b2 b3 c0 c1 c2 c3 c4 c5
          obtain ⟨a0, a1, a2, a3, a4, a5⟩ := B5.three
          obtain ⟨c0, c1, c2, c3, c4, c5⟩ := B6.three
          dsimp only
          go_wp2_with fail
          refine ⟨⟨k + 1, 0, C, S, by omega, by go_num, rfl, rfl, rfl, by omega, by omega, ?_, ?_⟩, by simp [intOf]; omega⟩
          · refine Blk.of_eq (by repeat (first | with_reducible exact B5 | with_reducible apply Blk.set)) (by simp)
          · repeat (first | with_reducible exact hw4 | (with_reducible refine Below.setCell ?_ ?_ _; rotate_left; (first | (simp; done) | (simp; omega))))
        · have hz : (P == 0) = false := by simpa using h0
          go_wp2_with fail
          refine (marked_no _ _ _ _ hq).mono ?_
          rintro e w3 ⟨rfl, hb⟩
          have B2 := ((B.alloc _).alloc _).call hb
          have B3 := ((Blk.new wr _ _).alloc _).call hb
          have B4 := (Blk.new (wr.alloc _) _ _).call hb
          rw [World.size_alloc] at B4
          clear a0 a1 a2 a3 a4 a5
          obtain ⟨a0, a1, a2, a3, a4, a5⟩ := B2.three
          obtain ⟨b0, b1, b2, b3⟩ := B3.two
          obtain ⟨c0, c1, c2, c3, c4, c5⟩ := B4.three
          have hB2 := B2.lt
          have hB3 := B3.lt
          have hB4 := B4.lt
          have hw3 := fresh_call (fresh_alloc (fresh_alloc hw _) _) hb
          clear hb hcell0 hcell1
          dsimp only
          go_wp2_with fail
          refine (due_busy _ _ _ _ _ _ hz).mono ?_
          rintro e w4 ⟨rfl, hb⟩
          have B5 := Blk.call (b := w1.heap.size) (by repeat (first | with_reducible exact B2 | with_reducible apply Blk.drewN | with_reducible apply Blk.set | (with_reducible apply Blk.other; rotate_left; (simp; omega)))) hb
          have B6 := Blk.call (b := wr.heap.size + 1) (by repeat (first | with_reducible exact B4 | with_reducible apply Blk.drewN | with_reducible apply Blk.set)) hb
          have hw4 := fresh_call (a := w) (by repeat (first | with_reducible exact hw3 | with_reducible refine below_drewN ?_ _ | (with_reducible refine Below.setCell ?_ ?_ _; rotate_left; (first | (simp; done) | (simp; omega))))) hb
          clear hb hw3 a0 a1 a2 a3 a4 a5 b0 b1 b2 b3 c0 c1 c2 c3 c4 c5
          obtain ⟨a0, a1, a2, a3, a4, a5⟩ := B5.three
          obtain ⟨c0, c1, c2, c3, c4, c5⟩ := B6.three
          dsimp only
          go_wp2_with fail
          refine ⟨⟨k + 1, P, C, S, by omega, by go_num, rfl, rfl, rfl, by omega, by omega, ?_, ?_⟩, by simp [intOf]; omega⟩
          · refine Blk.of_eq (by repeat (first | with_reducible exact B5 | with_reducible apply Blk.set)) (by simp)
          · repeat (first | with_reducible exact hw4 | (with_reducible refine Below.setCell ?_ ?_ _; rotate_left; (first | (simp; done) | (simp; omega))))
      have e2 : (kd == 2) = false := by simpa using hk2
      by_cases hp : P = 2
      · subst hp
        by_cases hC : C < 1000000
        · go_wp2_with fail
          refine (swept_lo _ _ _ (by omega)).mono ?_
          rintro e w3 ⟨rfl, hb⟩
          have B2 := ((B.alloc _).alloc _).call hb
          have B3 := ((Blk.new wr _ _).alloc _).call hb
          have B4 := (Blk.new (wr.alloc _) _ _).call hb
          rw [World.size_alloc] at B4
          clear a0 a1 a2 a3 a4 a5
          obtain ⟨a0, a1, a2, a3, a4, a5⟩ := B2.three
          obtain ⟨b0, b1, b2, b3⟩ := B3.two
          obtain ⟨c0, c1, c2, c3, c4, c5⟩ := B4.three
          have hB2 := B2.lt
          have hB3 := B3.lt
          have hB4 := B4.lt
          have hw3 := fresh_call (fresh_alloc (fresh_alloc hw _) _) hb
          clear hb hcell0 hcell1
          dsimp only
          go_wp2_with fail
          refine (due_idle _ _ _ _ _ (by omega) (by omega)).mono ?_
          rintro e w4 ⟨rfl, hb⟩
          have B5 := Blk.call (b := w1.heap.size) (by repeat (first | with_reducible exact B2 | with_reducible apply Blk.drewN | with_reducible apply Blk.set | (with_reducible apply Blk.other; rotate_left; (simp; omega)))) hb
          have B6 := Blk.call (b := wr.heap.size + 1) (by repeat (first | with_reducible exact B4 | with_reducible apply Blk.drewN | with_reducible apply Blk.set)) hb
          have hw4 := fresh_call (a := w) (by repeat (first | with_reducible exact hw3 | with_reducible refine below_drewN ?_ _ | (with_reducible refine Below.setCell ?_ ?_ _; rotate_left; (first | (simp; done) | (simp; omega))))) hb
          clear hb hw3 a0 a1 a2 a3 a4 a5 b0 b1 b2 b3 c0 c1 c2 c3 c4 c5
          obtain ⟨a0, a1, a2, a3, a4, a5⟩ := B5.three
          obtain ⟨c0, c1, c2, c3, c4, c5⟩ := B6.three
          dsimp only
          go_wp2_with fail
          refine ⟨⟨k + 1, 0, (wrap64 (C + 1)), S, by omega, by go_num, rfl, rfl, rfl, by omega, by omega, ?_, ?_⟩, by simp [intOf]; omega⟩
          · refine Blk.of_eq (by repeat (first | with_reducible exact B5 | with_reducible apply Blk.set)) (by simp)
          · repeat (first | with_reducible exact hw4 | (with_reducible refine Below.setCell ?_ ?_ _; rotate_left; (first | (simp; done) | (simp; omega))))
        · go_wp2_with fail
          refine (swept_hi _ _ _ (by omega)).mono ?_
          rintro e w3 ⟨rfl, hb⟩
          have B2 := ((B.alloc _).alloc _).call hb
          have B3 := ((Blk.new wr _ _).alloc _).call hb
          have B4 := (Blk.new (wr.alloc _) _ _).call hb
          rw [World.size_alloc] at B4
          clear a0 a1 a2 a3 a4 a5
          obtain ⟨a0, a1, a2, a3, a4, a5⟩ := B2.three
          obtain ⟨b0, b1, b2, b3⟩ := B3.two
          obtain ⟨c0, c1, c2, c3, c4, c5⟩ := B4.three
          have hB2 := B2.lt
          have hB3 := B3.lt
          have hB4 := B4.lt
          have hw3 := fresh_call (fresh_alloc (fresh_alloc hw _) _) hb
          clear hb hcell0 hcell1
          dsimp only
          go_wp2_with fail
          refine (due_idle _ _ _ _ _ (by omega) (by omega)).mono ?_
          rintro e w4 ⟨rfl, hb⟩
          have B5 := Blk.call (b := w1.heap.size) (by repeat (first | with_reducible exact B2 | with_reducible apply Blk.drewN | with_reducible apply Blk.set | (with_reducible apply Blk.other; rotate_left; (simp; omega)))) hb
          have B6 := Blk.call (b := wr.heap.size + 1) (by repeat (first | with_reducible exact B4 | with_reducible apply Blk.drewN | with_reducible apply Blk.set)) hb
          have hw4 := fresh_call (a := w) (by repeat (first | with_reducible exact hw3 | with_reducible refine below_drewN ?_ _ | (with_reducible refine Below.setCell ?_ ?_ _; rotate_left; (first | (simp; done) | (simp; omega))))) hb
          clear hb hw3 a0 a1 a2 a3 a4 a5 b0 b1 b2 b3 c0 c1 c2 c3 c4 c5
          obtain ⟨a0, a1, a2, a3, a4, a5⟩ := B5.three
          obtain ⟨c0, c1, c2, c3, c4, c5⟩ := B6.three
          dsimp only
          go_wp2_with fail
          refine ⟨⟨k + 1, 0, 1000000, S, by omega, by go_num, rfl, rfl, rfl, by omega, by omega, ?_, ?_⟩, by simp [intOf]; omega⟩
          · refine Blk.of_eq (by repeat (first | with_reducible exact B5 | with_reducible apply Blk.set)) (by simp)
          · repeat (first | with_reducible exact hw4 | (with_reducible refine Below.setCell ?_ ?_ _; rotate_left; (first | (simp; done) | (simp; omega))))
      have hq : (P == 2) = false := by simpa using hp
      by_cases h0 : P = 0
      · subst h0
        go_wp2_with fail
        refine (swept_no _ _ _ _ hq).mono ?_
        rintro e w3 ⟨rfl, hb⟩
        have B2 := ((B.alloc _).alloc _).call hb
        have B3 := ((Blk.new wr _ _).alloc _).call hb
        have B4 := (Blk.new (wr.alloc _) _ _).call hb
        rw [World.size_alloc] at B4
        clear a0 a1 a2 a3 a4 a5
        obtain ⟨a0, a1, a2, a3, a4, a5⟩ := B2.three
        obtain ⟨b0, b1, b2, b3⟩ := B3.two
        obtain ⟨c0, c1, c2, c3, c4, c5⟩ := B4.three
        have hB2 := B2.lt
        have hB3 := B3.lt
        have hB4 := B4.lt
        have hw3 := fresh_call (fresh_alloc (fresh_alloc hw _) _) hb
        clear hb hcell0 hcell1
        dsimp only
        go_wp2_with fail
        refine (due_idle _ _ _ _ _ (by omega) (by omega)).mono ?_
        rintro e w4 ⟨rfl, hb⟩
        have B5 := Blk.call (b := w1.heap.size) (by repeat (first | with_reducible exact B2 | with_reducible apply Blk.drewN | with_reducible apply Blk.set | (with_reducible apply Blk.other; rotate_left; (simp; omega)))) hb
        have B6 := Blk.call (b := wr.heap.size + 1) (by repeat (first | with_reducible exact B4 | with_reducible apply Blk.drewN | with_reducible apply Blk.set)) hb
        have hw4 := fresh_call (a := w) (by repeat (first | with_reducible exact hw3 | with_reducible refine below_drewN ?_ _ | (with_reducible refine Below.setCell ?_ ?_ _; rotate_left; (first | (simp; done) | (simp; omega))))) hb
        clear hb hw3 a0 a1 a2 a3 a4 a5 b0 b1 b2 b3 c0 c1 c2 c3 c4 c5
        obtain ⟨a0, a1, a2, a3, a4, a5⟩ := B5.three
        obtain ⟨c0, c1, c2, c3, c4, c5⟩ := B6.three
        dsimp only
        go_wp2_with fail
        refine ⟨⟨k + 1, 0, C, S, by omega, by go_num, rfl, rfl, rfl, by omega, by omega, ?_, ?_⟩, by simp [intOf]; omega⟩
        · refine Blk.of_eq (by repeat (first | with_reducible exact B5 | with_reducible apply Blk.set)) (by simp)
        · repeat (first | with_reducible exact hw4 | (with_reducible refine Below.setCell ?_ ?_ _; rotate_left; (first | (simp; done) | (simp; omega))))
      · have hz : (P == 0) = false := by simpa using h0
        go_wp2_with fail
        refine (swept_no _ _ _ _ hq).mono ?_
        rintro e w3 ⟨rfl, hb⟩
        have B2 := ((B.alloc _).alloc _).call hb
        have B3 := ((Blk.new wr _ _).alloc _).call hb
        have B4 := (Blk.new (wr.alloc _) _ _).call hb
        rw [World.size_alloc] at B4
        clear a0 a1 a2 a3 a4 a5
        obtain ⟨a0, a1, a2, a3, a4, a5⟩ := B2.three
        obtain ⟨b0, b1, b2, b3⟩ := B3.two
        obtain ⟨c0, c1, c2, c3, c4, c5⟩ := B4.three
        have hB2 := B2.lt
        have hB3 := B3.lt
        have hB4 := B4.lt
        have hw3 := fresh_call (fresh_alloc (fresh_alloc hw _) _) hb
        clear hb hcell0 hcell1
        dsimp only
        go_wp2_with fail
        refine (due_busy _ _ _ _ _ _ hz).mono ?_
        rintro e w4 ⟨rfl, hb⟩
        have B5 := Blk.call (b := w1.heap.size) (by repeat (first | with_reducible exact B2 | with_reducible apply Blk.drewN | with_reducible apply Blk.set | (with_reducible apply Blk.other; rotate_left; (simp; omega)))) hb
        have B6 := Blk.call (b := wr.heap.size + 1) (by repeat (first | with_reducible exact B4 | with_reducible apply Blk.drewN | with_reducible apply Blk.set)) hb
        have hw4 := fresh_call (a := w) (by repeat (first | with_reducible exact hw3 | with_reducible refine below_drewN ?_ _ | (with_reducible refine Below.setCell ?_ ?_ _; rotate_left; (first | (simp; done) | (simp; omega))))) hb
        clear hb hw3 a0 a1 a2 a3 a4 a5 b0 b1 b2 b3 c0 c1 c2 c3 c4 c5
        obtain ⟨a0, a1, a2, a3, a4, a5⟩ := B5.three
        obtain ⟨c0, c1, c2, c3, c4, c5⟩ := B6.three
        dsimp only
        go_wp2_with fail
        refine ⟨⟨k + 1, P, C, S, by omega, by go_num, rfl, rfl, rfl, by omega, by omega, ?_, ?_⟩, by simp [intOf]; omega⟩
        · refine Blk.of_eq (by repeat (first | with_reducible exact B5 | with_reducible apply Blk.set)) (by simp)
        · repeat (first | with_reducible exact hw4 | (with_reducible refine Below.setCell ?_ ?_ _; rotate_left; (first | (simp; done) | (simp; omega))))
    · go_wp2
      go_ret
      exact ⟨rfl, hw⟩
end Go.Proofs.Ytnolkgciapggdaa.CyclePlays
