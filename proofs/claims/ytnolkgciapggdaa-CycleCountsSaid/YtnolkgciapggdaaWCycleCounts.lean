/- The walk of besomlaw22.CycleCounts: it returns true, and writes nothing that was there. -/
import Derived.Test.YtnolkgciapggdaaCycA
import Derived.Test.YtnolkgciapggdaaArgs
namespace Go.Proofs.Ytnolkgciapggdaa.CycleCounts
open Go.RowKit Cyc
set_option linter.unusedSimpArgs false

def Rel (len b : Nat) (w : World) (n i : Value) (wr : World) : Prop := ∃ (k c : Nat) (p s : Int), k ≤ len ∧ i = .int .i64 k ∧ n = .int .i64 c ∧ c ≤ k ∧ Blk wr b #[.int .i64 p, .int .i64 c, .int .i64 s] 29 ∧ Below w.heap.size w wr

set_option maxHeartbeats 400000 in
theorem walk (A : Option Addr) (n c : Nat) (zs : List Int) (w : World) (l : zs.length = n) (wz : ∀ z ∈ zs, (Lit.int .i64 z).wf = true) (R : Reads w w.heap.size 1 A n c (zs.map (.int .i64))) :
    Calls Try.prog 6 #[.slice A n c] w fun e w' => e = .returned (.bool true) ∧ Below w.heap.size w w' := by
  have hm : n ≤ 9223372036854775807 := by have := R.1; have := R.2.1; unfold maxLen at this; omega
  by_cases h200 : 200 < n
  · go_enter Try.func6, Try.ntmps6
    go_wp2_with fail
    refine (alive _).mono ?_
    rintro e w1 ⟨rfl, hb⟩
    dsimp only
    go_wp2
    go_ret
    exact ⟨rfl, hb⟩
  · have H := Lib.hid l
    have HR := Lib.hid R
    clear l R
    go_enter Try.func6, Try.ntmps6
    go_wp2_with fail
    refine (alive _).mono ?_
    rintro e w1 ⟨rfl, hb⟩
    have B := Blk.new w1 #[.int .i64 0, .int .i64 0, .int .i64 0] 29
    have hw := fresh_alloc hb (.cells #[.int .i64 0, .int .i64 0, .int .i64 0] 29)
    have hw1 : w.heap.size ≤ w1.heap.size := hb.size
    clear hb
    dsimp only
    go_wp2_with fail
    generalize w1.alloc (.cells #[.int .i64 0, .int .i64 0, .int .i64 0] 29) = w2 at *
    go_loopw [4, 5] (fun n i wr => Rel zs.length w1.heap.size w n i wr) (fun _ i _ => zs.length - (intOf i).toNat)
    case atStart => exact ⟨0, 0, 0, 0, Nat.zero_le _, rfl, rfl, Nat.le_refl _, B, hw⟩
    case round =>
      clear B hw
      obtain ⟨k, c', p, s, hk, rfl, rfl, hck, B, hw⟩ := hrel
      by_cases hlt : k < n
      · have hkz : k < zs.length := by have := H.out; omega
        obtain ⟨b, off, rfl, hbl, hcell⟩ := (HR.out.below hw).at_ (j := k) (u := .int .i64 zs[k]) (by simp [hkz])
        obtain ⟨a0, a1, a2, a3, a4, a5⟩ := B.three
        have hbr : b < wr.heap.size := by have := hw.size; omega
        have hB := B.lt
        go_wp2_with fail
        · by_cases hp : p = 0
          · subst hp
            refine (begin_yes _ _ _ _).mono ?_
            rintro e w3 ⟨rfl, hb⟩
            have B2 := (B.alloc _).below hb (by simp <;> omega)
            have B3 := (Blk.new wr _ _).below hb (by simp <;> omega)
            clear a0 a1 a2 a3 a4 a5
            obtain ⟨a0, a1, a2, a3, a4, a5⟩ := B2.three
            obtain ⟨b0, b1, b2, b3, b4, b5⟩ := B3.three
            have hw3 := fresh_call (fresh_alloc hw _) hb
            clear hb hcell
            dsimp only
            go_wp2_with fail
            refine ⟨⟨k + 1, c', 1, k, by omega, by go_num, by first | rfl | go_num, by omega, ?_, ?_⟩, by simp [intOf]; omega⟩
            · refine Blk.of_eq (by repeat (first | with_reducible exact B2 | apply Blk.set)) (by simp)
            · repeat (first | with_reducible exact hw3 | refine Below.setCell ?_ (by first | (simp; done) | (simp; omega)) _)
          · have hp' : (p == 0) = false := by simpa using hp
            refine (begin_no _ _ _ _ _ hp').mono ?_
            rintro e w3 ⟨rfl, hb⟩
            have B2 := (B.alloc _).below hb (by simp <;> omega)
            have B3 := (Blk.new wr _ _).below hb (by simp <;> omega)
            clear a0 a1 a2 a3 a4 a5
            obtain ⟨a0, a1, a2, a3, a4, a5⟩ := B2.three
            obtain ⟨b0, b1, b2, b3, b4, b5⟩ := B3.three
            have hw3 := fresh_call (fresh_alloc hw _) hb
            clear hb hcell
            dsimp only
            go_wp2_with fail
            refine ⟨⟨k + 1, c', p, s, by omega, by go_num, by first | rfl | go_num, by omega, ?_, ?_⟩, by simp [intOf]; omega⟩
            · refine Blk.of_eq (by repeat (first | with_reducible exact B2 | apply Blk.set)) (by simp)
            · repeat (first | with_reducible exact hw3 | refine Below.setCell ?_ (by first | (simp; done) | (simp; omega)) _)
        · by_cases hp : p = 1
          · subst hp
            refine (marked_yes _ _ _).mono ?_
            rintro e w3 ⟨rfl, hb⟩
            have B2 := (B.alloc _).below hb (by simp <;> omega)
            have B3 := (Blk.new wr _ _).below hb (by simp <;> omega)
            clear a0 a1 a2 a3 a4 a5
            obtain ⟨a0, a1, a2, a3, a4, a5⟩ := B2.three
            obtain ⟨b0, b1, b2, b3, b4, b5⟩ := B3.three
            have hw3 := fresh_call (fresh_alloc hw _) hb
            clear hb hcell
            dsimp only
            go_wp2_with fail
            refine ⟨⟨k + 1, c', 2, s, by omega, by go_num, by first | rfl | go_num, by omega, ?_, ?_⟩, by simp [intOf]; omega⟩
            · refine Blk.of_eq (by repeat (first | with_reducible exact B2 | apply Blk.set)) (by simp)
            · repeat (first | with_reducible exact hw3 | refine Below.setCell ?_ (by first | (simp; done) | (simp; omega)) _)
          · have hp' : (p == 1) = false := by simpa using hp
            refine (marked_no _ _ _ _ hp').mono ?_
            rintro e w3 ⟨rfl, hb⟩
            have B2 := (B.alloc _).below hb (by simp <;> omega)
            have B3 := (Blk.new wr _ _).below hb (by simp <;> omega)
            clear a0 a1 a2 a3 a4 a5
            obtain ⟨a0, a1, a2, a3, a4, a5⟩ := B2.three
            obtain ⟨b0, b1, b2, b3, b4, b5⟩ := B3.three
            have hw3 := fresh_call (fresh_alloc hw _) hb
            clear hb hcell
            dsimp only
            go_wp2_with fail
            refine ⟨⟨k + 1, c', p, s, by omega, by go_num, by first | rfl | go_num, by omega, ?_, ?_⟩, by simp [intOf]; omega⟩
            · refine Blk.of_eq (by repeat (first | with_reducible exact B2 | apply Blk.set)) (by simp)
            · repeat (first | with_reducible exact hw3 | refine Below.setCell ?_ (by first | (simp; done) | (simp; omega)) _)
        · by_cases hp : p = 2
          · subst hp
            have hcw : wrap64 ((c' : Int) + 1) = (c' : Int) + 1 := wrap64_id (by omega)
            refine (swept_lo _ _ _ (by omega)).mono ?_
            rw [hcw]
            clear hcw
            rintro e w3 ⟨rfl, hb⟩
            have B2 := (B.alloc _).below hb (by simp <;> omega)
            have B3 := (Blk.new wr _ _).below hb (by simp <;> omega)
            clear a0 a1 a2 a3 a4 a5
            obtain ⟨a0, a1, a2, a3, a4, a5⟩ := B2.three
            obtain ⟨b0, b1, b2, b3, b4, b5⟩ := B3.three
            have hw3 := fresh_call (fresh_alloc hw _) hb
            clear hb hcell
            dsimp only
            go_wp2_with fail
            refine ⟨⟨k + 1, (c' + 1), 0, s, by omega, by go_num, by first | rfl | go_num, by omega, ?_, ?_⟩, by simp [intOf]; omega⟩
            · refine Blk.of_eq (by repeat (first | with_reducible exact B2 | apply Blk.set)) (by simp)
            · repeat (first | with_reducible exact hw3 | refine Below.setCell ?_ (by first | (simp; done) | (simp; omega)) _)
          · have hp' : (p == 2) = false := by simpa using hp
            refine (swept_no _ _ _ _ hp').mono ?_
            rintro e w3 ⟨rfl, hb⟩
            have B2 := (B.alloc _).below hb (by simp <;> omega)
            have B3 := (Blk.new wr _ _).below hb (by simp <;> omega)
            clear a0 a1 a2 a3 a4 a5
            obtain ⟨a0, a1, a2, a3, a4, a5⟩ := B2.three
            obtain ⟨b0, b1, b2, b3, b4, b5⟩ := B3.three
            have hw3 := fresh_call (fresh_alloc hw _) hb
            clear hb hcell
            dsimp only
            go_wp2_with fail
            refine ⟨⟨k + 1, c', p, s, by omega, by go_num, by first | rfl | go_num, by omega, ?_, ?_⟩, by simp [intOf]; omega⟩
            · refine Blk.of_eq (by repeat (first | with_reducible exact B2 | apply Blk.set)) (by simp)
            · repeat (first | with_reducible exact hw3 | refine Below.setCell ?_ (by first | (simp; done) | (simp; omega)) _)
      · go_wp2
        go_ret
        exact ⟨rfl, hw⟩
end Go.Proofs.Ytnolkgciapggdaa.CycleCounts
