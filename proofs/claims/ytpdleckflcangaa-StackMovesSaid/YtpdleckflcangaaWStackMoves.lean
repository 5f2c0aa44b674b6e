/- The walk of besomlaw13.StackMoves: it returns true, and writes nothing that was there. -/
import Derived.Test.YtpdleckflcangaaStkA
namespace Go.Proofs.Ytpdleckflcangaa.StackMoves
open Go.RowKit Stk
set_option linter.unusedSimpArgs false
set_option linter.unusedVariables false

set_option maxRecDepth 100000 in
set_option maxHeartbeats 1000000 in
theorem early (p q r : Int) (A : Option Addr) (n c : Nat) (w : World) (hm : n ≤ 9223372036854775807) (h : p < 1 ∨ 200 < p ∨ q < 0 ∨ 200 < q ∨ r < 1 ∨ 1000 < r ∨ 60 < n) :
    Calls Try.prog 9 #[.int .i64 p, .int .i64 q, .int .i64 r, .slice A n c] w fun e w' => e = .returned (.bool true) ∧ Below w.heap.size w w' := by
  by_cases h0 : p < 1
  · clear h
    go_enter Try.func9, Try.ntmps9
    go_wp2_with fail
    refine (alive _).mono ?_
    rintro e w1 ⟨rfl, hb⟩
    dsimp only
    go_wp2
    go_ret
    exact ⟨rfl, hb⟩
  by_cases h1 : 200 < p
  · clear h
    go_enter Try.func9, Try.ntmps9
    go_wp2_with fail
    refine (alive _).mono ?_
    rintro e w1 ⟨rfl, hb⟩
    dsimp only
    go_wp2
    go_ret
    exact ⟨rfl, hb⟩
  by_cases h2 : q < 0
  · clear h
    go_enter Try.func9, Try.ntmps9
    go_wp2_with fail
    refine (alive _).mono ?_
    rintro e w1 ⟨rfl, hb⟩
    dsimp only
    go_wp2
    go_ret
    exact ⟨rfl, hb⟩
  by_cases h3 : 200 < q
  · clear h
    go_enter Try.func9, Try.ntmps9
    go_wp2_with fail
    refine (alive _).mono ?_
    rintro e w1 ⟨rfl, hb⟩
    dsimp only
    go_wp2
    go_ret
    exact ⟨rfl, hb⟩
  by_cases h4 : r < 1
  · clear h
    go_enter Try.func9, Try.ntmps9
    go_wp2_with fail
    refine (alive _).mono ?_
    rintro e w1 ⟨rfl, hb⟩
    dsimp only
    go_wp2
    go_ret
    exact ⟨rfl, hb⟩
  by_cases h5 : 1000 < r
  · clear h
    go_enter Try.func9, Try.ntmps9
    go_wp2_with fail
    refine (alive _).mono ?_
    rintro e w1 ⟨rfl, hb⟩
    dsimp only
    go_wp2
    go_ret
    exact ⟨rfl, hb⟩
  by_cases h6 : 60 < n
  · clear h
    go_enter Try.func9, Try.ntmps9
    go_wp2_with fail
    refine (alive _).mono ?_
    rintro e w1 ⟨rfl, hb⟩
    dsimp only
    go_wp2
    go_ret
    exact ⟨rfl, hb⟩
  omega

def Rel1 (p n b g : Nat) (w : World) (i : Value) (wr : World) : Prop := ∃ (k : Nat) (ws : List Int), k ≤ n ∧ i = .int .i64 k ∧ ws.length = p ∧ StackAt wr b g 1073741824 ws ∧ Below w.heap.size w wr

set_option maxRecDepth 100000 in
set_option maxHeartbeats 2000000 in
theorem core (p q : Nat) (r : Int) (A : Option Addr) (n c : Nat) (xs : List Int) (w : World) (hp1 : 1 ≤ p) (hp2 : p ≤ 200) (hq : q ≤ 200) (r1 : 1 ≤ r) (r2 : r ≤ 1000) (hn : n ≤ 60)
    (hx : xs.length = n) (R : Reads w w.heap.size 1 A n c (xs.map (.int .i64))) :
    Calls Try.prog 9 #[.int .i64 p, .int .i64 q, .int .i64 r, .slice A n c] w fun e w' => e = .returned (.bool true) ∧ Below w.heap.size w w' := by
  have HX := Lib.hid hx
  have HR := Lib.hid R
  clear hx R
  go_enter Try.func9, Try.ntmps9
  go_wp2_with fail
  refine (alive _).mono ?_
  rintro e w0 ⟨rfl, hb⟩
  dsimp only
  go_wp2_with fail
  refine (new_any _ _ _).mono ?_
  rw [show (min (max (p : Int) 1) 4096).toNat = p by omega, show 1073741824 + min (max (0 : Int) 0) 100000 * 8192 = 1073741824 by decide]
  rintro e w1 ⟨rfl, h1, hb1⟩
  have hw1 := fresh_call hb hb1
  have hB : w.heap.size ≤ w0.heap.size := hb.size
  have H0 := Lib.hid (show Rel1 p n (w0.heap.size + 1) w0.heap.size w (.int .i64 0) w1 from ⟨0, _, Nat.zero_le _, rfl, by rw [List.length_replicate], h1, hw1⟩)
  clear h1 hb hb1 hw1
  dsimp only
  go_wp2_with fail
  go_loopw [10] (fun i wr => Rel1 p n (w0.heap.size + 1) w0.heap.size w i wr) (fun i _ => n - (intOf i).toNat)
  case atStart => exact H0.out
  case round =>
    clear H0
    obtain ⟨k, ws, hk, rfl, hwl, hS, hw⟩ := hrel
    have HS := Lib.hid hS
    have HL := Lib.hid hwl
    clear hS hwl
    by_cases hlt : k < n
    · have hkx : k < xs.length := by have := HX.out; omega
      have hxk : xs[k]? = some xs[k] := List.getElem?_eq_getElem hkx
      obtain ⟨sb, off, rfl, hsb, hsc⟩ := (HR.out.below hw).at_ (j := k) (u := .int .i64 xs[k]) (by rw [List.getElem?_map, hxk]; rfl)
      clear hxk
      generalize hxv : xs[k] = x at *
      clear hxv
      have hk0 : (0 : Int) ≤ (k : Int) := by omega
      have hkn : (k : Int) < (n : Int) := by omega
      go_wp2_with fail
      by_cases hkp : k < p
      · refine (store_yes _ _ _ _ k x _ HS.out (by have := HL.out; omega)).mono ?_
        rintro e w3 ⟨rfl, h3, hg3⟩
        have H3 := Lib.hid h3
        have hw3 : Below w.heap.size w w3 := hw.grown hg3 hw.size (fun j hj => by cases hj; exact hB)
        clear h3 hg3
        dsimp only
        go_wp2_with fail
        exact ⟨⟨k + 1, _, by omega, by go_num, by rw [List.length_set]; exact HL.out, H3.out, hw3⟩, by simp [intOf]; omega⟩
      · refine (store_no _ _ _ _ k x _ HS.out (.inr (by have := HL.out; omega))).mono ?_
        rintro e w3 ⟨rfl, rfl⟩
        dsimp only
        go_wp2_with fail
        exact ⟨⟨k + 1, _, by omega, by go_num, HL.out, HS.out, hw⟩, by simp [intOf]; omega⟩
    · have hcp := copy_any (w0.heap.size + 1) w0.heap.size 1073741824 ws r ((p : Int) + (q : Int)) wr HS.out
      rw [show (min (max ((p : Int) + (q : Int)) 1) 4096).toNat = p + q by omega, show min (max r 0) 100000 = r by omega] at hcp
      have HC := Lib.hid hcp
      clear hcp
      go_wp2_with fail
      refine HC.out.mono ?_
      rintro e w3 ⟨rfl, h3, hb3⟩
      have HT := Lib.hid h3
      have HS3 := Lib.hid (HS.out.below hb3)
      have hw3 := fresh_call hw hb3
      have hpl := HL.out
      clear h3 hb3 HC HS hw
      dsimp only
      go_wp2_with fail
      refine (words_any _ _ _ _ _ HT.out).mono ?_
      rw [cp_length, Int.natCast_add]
      rintro e w4 ⟨rfl, rfl⟩
      dsimp only
      go_wp2_with fail
      have HP := Lib.hid hpl
      clear hpl HL
      have hr2 : 0 ≤ 1073741824 + r * 8192 := by omega
      have hr3 : 1073741824 + r * 8192 ≤ 4000000000 := by omega
      generalize hbt : 1073741824 + r * 8192 = bt at *
      have HBT := Lib.hid hbt
      clear hbt
      go_loopw [12] (fun i wr => ∃ k d : Nat, k ≤ p ∧ i = .int .i64 k ∧ wr = w3.drewN d) (fun i _ => p - (intOf i).toNat)
      case atStart => exact ⟨0, 0, Nat.zero_le _, rfl, rfl⟩
      case round =>
        obtain ⟨k, d, hk, rfl, rfl⟩ := hrel
        by_cases hlt : k < p
        · have hkw : k < ws.length := by have := HP.out; omega
          have hkc : k < (cp ws (p + q)).length := by rw [cp_length]; omega
          have hxk : ws[k]? = some ws[k] := List.getElem?_eq_getElem hkw
          have hck : (cp ws (p + q))[k]? = some ws[k] := by
            unfold cp
            rw [List.getElem?_append_left (by simp; omega), List.getElem?_take, if_pos (by omega)]
            exact hxk
          have HX1 := Lib.hid hxk
          have HX2 := Lib.hid hck
          clear hxk hck
          generalize ws[k] = x at *
          go_wp2_with fail
          refine (load_yes _ _ _ _ k x _ (HS3.out.drewN d) HX1.out).mono ?_
          rintro e w4 ⟨rfl, rfl⟩
          dsimp only
          go_wp2_with fail
          refine (load_yes _ _ _ _ k x _ (HT.out.drewN d) HX2.out).mono ?_
          rintro e w4 ⟨rfl, rfl⟩
          dsimp only
          go_wp2_with fail
          refine (addr_yes _ _ _ _ k _ (HS3.out.drewN d) hkw (by omega)).mono ?_
          rintro e w4 ⟨rfl, rfl⟩
          dsimp only
          go_wp2_with fail
          refine (moved_in _ _ _ _ _ _ _ _ k _ _ (HT.out.drewN d) (HS3.out.drewN d) ⟨hr2, hr3⟩ (by omega) hkw rfl).mono ?_
          rw [if_pos hkc]
          rintro e w4 ⟨rfl, q1, rfl⟩
          dsimp only
          go_wp2_with fail
          refine (addr_yes _ _ _ _ k _ (HT.out.drewN (d + q1)) hkc ⟨hr2, hr3⟩).mono ?_
          rintro e w4 ⟨rfl, rfl⟩
          dsimp only
          go_wp2_with fail
          refine (addr_yes _ _ _ _ k _ (HT.out.drewN (d + q1)) hkc ⟨hr2, hr3⟩).mono ?_
          rintro e w4 ⟨rfl, rfl⟩
          dsimp only
          go_wp2_with fail
          refine (moved_in _ _ _ _ _ _ _ _ k _ _ (HS3.out.drewN (d + q1)) (HT.out.drewN (d + q1)) (by omega) ⟨hr2, hr3⟩ hkc rfl).mono ?_
          rw [if_pos hkw]
          rintro e w4 ⟨rfl, q2, rfl⟩
          dsimp only
          go_wp2_with fail
          refine (addr_yes _ _ _ _ k _ (HS3.out.drewN (d + q1 + q2)) hkw (by omega)).mono ?_
          rintro e w4 ⟨rfl, rfl⟩
          dsimp only
          go_wp2_with fail
          refine (addr_yes _ _ _ _ k _ (HS3.out.drewN (d + q1 + q2)) hkw (by omega)).mono ?_
          rintro e w4 ⟨rfl, rfl⟩
          dsimp only
          go_wp2_with fail
          refine (moved_in _ _ _ _ _ _ _ _ k _ _ (HT.out.drewN (d + q1 + q2)) (HS3.out.drewN (d + q1 + q2)) ⟨hr2, hr3⟩ (by omega) hkw rfl).mono ?_
          rw [if_pos hkc]
          rintro e w4 ⟨rfl, q3, rfl⟩
          dsimp only
          go_wp2_with fail
          refine (off_in _ _ _ _ k _ (HT.out.drewN (d + q1 + q2 + q3)) hkc ⟨hr2, hr3⟩ _ rfl).mono ?_
          rintro e w4 ⟨rfl, q4, rfl⟩
          dsimp only
          go_wp2_with fail
          exact ⟨⟨k + 1, _, by omega, by go_num, rfl⟩, by simp [intOf]; omega⟩
        · obtain rfl : k = p := by omega
          go_wp2_with fail
          go_loopw [19] (fun i wr => ∃ j d : Nat, j ≤ q ∧ i = .int .i64 ((k : Int) + (j : Int)) ∧ wr = w3.drewN d) (fun i _ => k + q - (intOf i).toNat)
          case atStart => exact ⟨0, d, Nat.zero_le _, by simp, rfl⟩
          case round =>
            obtain ⟨j, d, hj, rfl, rfl⟩ := hrel
            by_cases hlt : j < q
            · have hkc : k + j < (cp ws (k + q)).length := by rw [cp_length]; omega
              have hck : (cp ws (k + q))[k + j]? = some 0 := by
                unfold cp
                have := HP.out
                rw [List.getElem?_append_right (by simp; omega), List.getElem?_replicate, if_pos (by simp; omega)]
              have HX2 := Lib.hid hck
              have hsum : ((k + j : Nat) : Int) = (k : Int) + (j : Int) := by omega
              have hl := load_yes _ _ _ _ (k + j) 0 _ (HT.out.drewN d) HX2.out
              have ha := addr_yes _ _ _ _ (k + j) _ (HT.out.drewN d) hkc ⟨hr2, hr3⟩
              have hm := moved_in _ _ _ _ _ _ _ _ (k + j) _ _ (HS3.out.drewN d) (HT.out.drewN d) (by omega) ⟨hr2, hr3⟩ hkc rfl
              rw [if_neg (by have := HP.out; omega)] at hm
              rw [hsum] at hl ha hm
              have A1 := Lib.hid hl
              have A2 := Lib.hid ha
              have A3 := Lib.hid hm
              clear hl ha hm hck hsum
              go_wp2_with fail
              refine A1.out.mono ?_
              rintro e w4 ⟨rfl, rfl⟩
              dsimp only
              go_wp2_with fail
              refine A2.out.mono ?_
              rintro e w4 ⟨rfl, rfl⟩
              dsimp only
              go_wp2_with fail
              refine A3.out.mono ?_
              rintro e w4 ⟨rfl, q1, rfl⟩
              dsimp only
              go_wp2_with fail
              refine ⟨⟨j + 1, _, by omega, ?_, rfl⟩, by simp [intOf]; omega⟩
              rw [Int.natCast_add, ← Int.add_assoc]; rfl
            · obtain rfl : j = q := by omega
              go_wp2_with fail
              refine (moved_out _ _ _ _ _ _ _ _ _ _ (HT.out.drewN d) (HS3.out.drewN d) (by omega) (.inl (by omega))).mono ?_
              rintro e w4 ⟨rfl, q1, rfl⟩
              dsimp only
              go_wp2_with fail
              refine (moved_out _ _ _ _ _ _ _ _ _ _ (HT.out.drewN (d + q1)) (HS3.out.drewN (d + q1)) (by omega) (.inl (by omega))).mono ?_
              rintro e w4 ⟨rfl, q2, rfl⟩
              dsimp only
              go_wp2_with fail
              go_ret
              exact ⟨rfl, below_drewN hw3 _⟩

theorem walk (p q r : Int) (A : Option Addr) (n c : Nat) (xs : List Int) (w : World) (_wp : (Lit.int .i64 p).wf = true) (_wq : (Lit.int .i64 q).wf = true) (_wr : (Lit.int .i64 r).wf = true) (l : xs.length = n) (_wx : ∀ z ∈ xs, (Lit.int .i64 z).wf = true) (R : Reads w w.heap.size 1 A n c (xs.map (.int .i64))) :
    Calls Try.prog 9 #[.int .i64 p, .int .i64 q, .int .i64 r, .slice A n c] w fun e w' => e = .returned (.bool true) ∧ Below w.heap.size w w' := by
  have hm : n ≤ 9223372036854775807 := by have := R.1; have := R.2.1; unfold maxLen at this; omega
  by_cases h : p < 1 ∨ 200 < p ∨ q < 0 ∨ 200 < q ∨ r < 1 ∨ 1000 < r ∨ 60 < n
  · exact early p q r A n c w hm h
  · obtain ⟨pn, rfl⟩ := Int.eq_ofNat_of_zero_le (a := p) (by omega)
    obtain ⟨qn, rfl⟩ := Int.eq_ofNat_of_zero_le (a := q) (by omega)
    exact core pn qn r A n c xs w (by omega) (by omega) (by omega) (by omega) (by omega) (by omega) l R
end Go.Proofs.Ytpdleckflcangaa.StackMoves
