/- The walk of besomlaw15.UnwindReturns: it returns true, and writes nothing that was there. (Printed by a program of mine.) -/
import Derived.Test.YtjlbmelpoaffpaaUnwV
namespace Go.Proofs.Ytjlbmelpoaffpaa.UnwindReturns
open Go.RowKit Unw
set_option linter.unusedSimpArgs false
set_option linter.unusedVariables false

abbrev rep (j : Nat) : List Mk := List.replicate j ⟨false, false, 0⟩

set_option maxRecDepth 100000 in
theorem early (p q : Int) (w : World) (h : p < 0 ∨ 8 < p) :
    Calls Try.prog 5 #[.int .i64 p, .int .i64 q] w fun e w' => e = .returned (.bool true) ∧ Below w.heap.size w w' := by
  by_cases h0 : p < 0
  · clear h
    go_enter Try.func5, Try.ntmps5
    go_wp2_with fail
    refine (alive _).mono ?_
    rintro e w1 ⟨rfl, hb1⟩
    dsimp only
    go_wp2_with fail
    go_ret
    exact ⟨rfl, hb1⟩
  by_cases h1 : 8 < p
  · clear h
    go_enter Try.func5, Try.ntmps5
    go_wp2_with fail
    refine (alive _).mono ?_
    rintro e w1 ⟨rfl, hb1⟩
    dsimp only
    go_wp2_with fail
    go_ret
    exact ⟨rfl, hb1⟩
  omega

set_option maxRecDepth 100000 in
set_option maxHeartbeats 4000000 in
theorem core (a : Nat) (ha : a ≤ 8) (code : Int) (w : World) :
    Calls Try.prog 5 #[.int .i64 a, .int .i64 code] w fun e w' => e = .returned (.bool true) ∧ Below w.heap.size w w' := by
  go_enter Try.func5, Try.ntmps5
  go_wp2_with fail
  refine (alive _).mono ?_
  rintro e w0 ⟨rfl, hb0⟩
  dsimp only
  go_wp2_with fail
  refine (enter_any _ _ [] [] (St.empty w0)).mono ?_
  intro e wz hg
  obtain ⟨Az, cz, Az', cz', rfl, ho, hb⟩ := hg.take (n := 1) (k := 0) rfl rfl
  have H := Lib.hid ho
  have hbz := fresh_call hb0 hb
  clear hg ho hb hb0
  dsimp only [id]
  go_wp2_with fail
  refine (enter_any _ _ _ _ (H.out.st (by omega) (by omega))).mono ?_
  intro e wa hg
  obtain ⟨Aa, ca, Aa', ca', rfl, ho, hb⟩ := hg.take (n := 2) (k := 0) rfl rfl
  have V := Lib.hid (Var.start (fresh_call hbz hb) ho hbz.size)
  obtain ⟨l1, l2, l3, l4⟩ := V.out.cells
  clear hg ho hb hbz H
  dsimp only [id]
  go_wp2_with fail
  generalize wa.alloc (.cells #[.slice Aa 2 ca, .slice Aa' 0 ca'] 26) = was at *
  generalize wa.heap.size = b at *
  refine (defer_any _ _  _ _ (V.out.own.st (by omega) (by omega)) (by simp [okT])).mono ?_
  intro e w1 hg
  obtain ⟨A1, c1, A1', c1', rfl, ho, hb⟩ := (hg.as (ms' := [⟨false, false, 1⟩, ⟨false, false, 0⟩]) (al' := []) rfl rfl).take (n := 2) (k := 0) rfl rfl
  clear l1 l2 l3 l4
  obtain ⟨k1, k2, k3, k4, hv⟩ := V.out.stored ho hb
  clear V
  have V := Lib.hid hv
  obtain ⟨l1, l2, l3, l4⟩ := hv.cells
  clear hg ho hb hv
  simp only [show deferB [⟨false, false, 0⟩, ⟨false, false, 0⟩] = true from rfl]
  go_wp2_with fail
  generalize (w1.setCell ⟨b, 0, none⟩ (.slice A1 2 c1)).setCell ⟨b, 1, none⟩ (.slice A1' 0 c1') = w1s at *
  clear k1 k2 k3 k4
  clear l1 l2 l3 l4
  have H0 := Lib.hid (show Var w _ b (rep 0 ++ [⟨false, false, 1⟩, ⟨false, false, 0⟩]) [] (0 + 2) 0 _ _ _ _ from V.out)
  clear V
  go_loopw [6] (fun i wr => ∃ (j : Nat) (A : Option Addr) (c : Nat) (A' : Option Addr) (c' : Nat), j ≤ a ∧ i = .int .i64 j ∧ Var w wr b (rep j ++ [⟨false, false, 1⟩, ⟨false, false, 0⟩]) [] (j + 2) 0 A c A' c') (fun i _ => a - (intOf i).toNat)
  case atStart => exact ⟨0, _, _, _, _, Nat.zero_le _, rfl, H0.out⟩
  case round =>
    clear H0
    obtain ⟨j, A, c, A', c', hj, rfl, hv⟩ := hrel
    have V := Lib.hid hv
    obtain ⟨l1, l2, l3, l4⟩ := hv.cells
    clear hv
    by_cases hlt : j < a
    · go_wp2_with fail
      refine (enter_any _ _  _ _ (V.out.own.st (by omega) (by omega)) ).mono ?_
      intro e w21 hg
      obtain ⟨A21, c21, A21', c21', rfl, ho, hb⟩ := (hg.as (ms' := (rep (j + 1) ++ [⟨false, false, 1⟩, ⟨false, false, 0⟩])) (al' := []) rfl rfl).take (n := (j + 1 + 2)) (k := 0) (by simp) rfl
      clear l1 l2 l3 l4
      obtain ⟨k1, k2, k3, k4, hv⟩ := V.out.stored ho hb
      clear V
      have V := Lib.hid hv
      obtain ⟨l1, l2, l3, l4⟩ := hv.cells
      clear hg ho hb hv
      dsimp only [id]
      go_wp2_with fail
      generalize (w21.setCell ⟨b, 0, none⟩ (.slice A21 (j + 1 + 2) c21)).setCell ⟨b, 1, none⟩ (.slice A21' 0 c21') = w21s at *
      clear k1 k2 k3 k4
      exact ⟨⟨j + 1, _, _, _, _, by omega, by go_num, V.out⟩, by simp [intOf]; omega⟩
    · obtain rfl : j = a := by omega
      go_wp2_with fail
      refine (panic_any _ _ code 3 _ _ (V.out.own.st (by omega) (by omega)) ).mono ?_
      intro e w31 hg
      obtain ⟨A31, c31, A31', c31', rfl, ho, hb⟩ := hg.take (n := (j + 2)) (k := 1) (by simp) rfl
      clear l1 l2 l3 l4
      obtain ⟨k1, k2, k3, k4, hv⟩ := V.out.stored ho hb
      clear V
      have V := Lib.hid hv
      obtain ⟨l1, l2, l3, l4⟩ := hv.cells
      clear hg ho hb hv
      dsimp only [id]
      go_wp2_with fail
      generalize (w31.setCell ⟨b, 0, none⟩ (.slice A31 (j + 2) c31)).setCell ⟨b, 1, none⟩ (.slice A31' 1 c31') = w31s at *
      clear k1 k2 k3 k4
      clear l1 l2 l3 l4
      have H0 := Lib.hid V.out
      clear V
      go_loopw [7] (fun i wr => ∃ (q t : Nat) (A : Option Addr) (c : Nat) (A' : Option Addr) (c' : Nat), q + t = j ∧ i = .int .i64 q ∧ Var w wr b (rep t ++ [⟨false, false, 1⟩, ⟨false, false, 0⟩]) [⟨code, 3, 0, false, false⟩] (t + 2) 1 A c A' c') (fun i _ => j - (intOf i).toNat)
      case atStart => exact ⟨0, j, _, _, _, _, by omega, rfl, H0.out⟩
      case round =>
        clear H0
        obtain ⟨q, t, A, c, A', c', hj, rfl, hv⟩ := hrel
        have V := Lib.hid hv
        obtain ⟨l1, l2, l3, l4⟩ := hv.cells
        clear hv
        rcases t with _ | t
        · obtain rfl : q = j := by omega
          clear hj
          have V2 := Lib.hid (show Var w wr b [⟨false, false, 1⟩, ⟨false, false, 0⟩] [⟨code, 3, 0, false, false⟩] 2 1 A c A' c' from V.out)
          clear V
          have V := Lib.hid V2.out
          clear V2
          rw [Nat.zero_add] at l1
          go_wp2_with fail
          refine (next_any _ _ [⟨false, false, 1⟩, ⟨false, false, 0⟩] [⟨code, 3, 0, false, false⟩] (V.out.own.st (by omega) (by omega))).mono ?_
          rw [show next [⟨false, false, 1⟩, ⟨false, false, 0⟩] [⟨code, 3, 0, false, false⟩] = 1 from rfl]
          rintro e w41 ⟨rfl, hb⟩
          clear l1 l2 l3 l4
          have V2 := Lib.hid (V.out.call hb)
          clear V
          have V := Lib.hid V2.out
          clear V2 hb
          obtain ⟨l1, l2, l3, l4⟩ := V.out.cells
          dsimp only
          go_wp2_with fail
          refine (thunk_any _ _  _ _ (V.out.own.st (by omega) (by omega)) (by simp) (by simp [okT])).mono ?_
          intro e w42 hg
          obtain ⟨A42, c42, A42', c42', rfl, ho, hb⟩ := (hg.as (ms' := [⟨false, true, 0⟩, ⟨false, false, 0⟩, ⟨false, false, 0⟩]) (al' := [⟨code, 3, 3, false, false⟩]) rfl rfl).take (n := 3) (k := 1) rfl rfl
          clear l1 l2 l3 l4
          have V2 := Lib.hid (V.out.call hb)
          clear V
          have V := Lib.hid V2.out
          clear V2
          obtain ⟨l1, l2, l3, l4⟩ := V.out.cells
          have H := Lib.hid ho
          clear hg ho hb
          dsimp only [id]
          go_wp2_with fail
          refine (recover_yes _ _  _ _ _ (H.out.st (by omega) (by omega)) rfl).mono ?_
          intro e w43 hg
          obtain ⟨A43, c43, A43', c43', rfl, ho, hb⟩ := (hg.as (ms' := [⟨false, true, 0⟩, ⟨false, false, 0⟩, ⟨false, false, 0⟩]) (al' := [⟨code, 3, 3, false, true⟩]) rfl rfl).take (n := 3) (k := 1) rfl rfl
          clear l1 l2 l3 l4
          obtain ⟨k1, k2, k3, k4, hv⟩ := V.out.stored ho hb
          clear V H
          have V := Lib.hid hv
          obtain ⟨l1, l2, l3, l4⟩ := hv.cells
          clear hg ho hb hv
          simp only [recF]
          go_wp2_with fail
          generalize (w43.setCell ⟨b, 0, none⟩ (.slice A43 3 c43)).setCell ⟨b, 1, none⟩ (.slice A43' 1 c43') = w43s at *
          clear k1 k2 k3 k4
          refine (recover_no _ _  _ _ (V.out.own.st (by omega) (by omega)) rfl).mono ?_
          intro e w44 hg
          obtain ⟨A44, c44, A44', c44', rfl, ho, hb⟩ := (hg.as (ms' := [⟨false, true, 0⟩, ⟨false, false, 0⟩, ⟨false, false, 0⟩]) (al' := [⟨code, 3, 3, false, true⟩]) rfl rfl).take (n := 3) (k := 1) rfl rfl
          clear l1 l2 l3 l4
          have V2 := Lib.hid ((V.out.call hb).alloc (.cells #[.slice A44 3 c44, .slice A44' 1 c44'] 26))
          obtain ⟨k1, k2, k3, k4⟩ := (V.out.call hb).cells
          have klt := (V.out.call hb).blk.lt
          clear V
          have V := Lib.hid V2.out
          clear V2
          obtain ⟨l1, l2, l3, l4⟩ := V.out.cells
          clear hg ho hb
          simp only [recF]
          go_wp2_with fail
          generalize w44.alloc (.cells #[.slice A44 3 c44, .slice A44' 1 c44'] 26) = w44s at *
          clear k1 k2 k3 k4 klt
          refine (leave_any _ _  _ _ (V.out.own.st (by omega) (by omega)) ).mono ?_
          intro e w45 hg
          obtain ⟨A45, c45, A45', c45', rfl, ho, hb⟩ := (hg.as (ms' := [⟨true, true, 0⟩, ⟨false, false, 0⟩, ⟨false, false, 0⟩]) (al' := [⟨code, 3, 3, false, true⟩]) rfl rfl).take (n := 3) (k := 1) rfl rfl
          clear l1 l2 l3 l4
          have V2 := Lib.hid (V.out.call hb)
          clear V
          have V := Lib.hid V2.out
          clear V2
          obtain ⟨l1, l2, l3, l4⟩ := V.out.cells
          have H := Lib.hid ho
          clear hg ho hb
          dsimp only [id]
          go_wp2_with fail
          refine (pop_any _ _  _ _ (H.out.st (by omega) (by omega)) ).mono ?_
          intro e w46 hg
          obtain ⟨A46, c46, A46', c46', rfl, ho, hb⟩ := (hg.as (ms' := [⟨true, false, 0⟩, ⟨false, false, 0⟩]) (al' := []) rfl rfl).take (n := 2) (k := 0) rfl rfl
          clear l1 l2 l3 l4
          obtain ⟨k1, k2, k3, k4, hv⟩ := V.out.stored ho hb
          clear V H
          obtain ⟨gm, rfl, f0, f1, f2⟩ := hv.headM
          simp only [List.length_nil, List.length_cons, Nat.zero_mul, Nat.zero_add, Nat.reduceMul, Nat.reduceAdd] at f0 f1 f2
          have V := Lib.hid hv
          obtain ⟨l1, l2, l3, l4⟩ := hv.cells
          clear hg ho hb hv
          dsimp only [id]
          go_wp2_with fail
          generalize (w46.setCell ⟨b, 0, none⟩ (.slice (some ⟨gm, 0, none⟩) 2 c46)).setCell ⟨b, 1, none⟩ (.slice A46' 0 c46') = w46s at *
          clear k1 k2 k3 k4
          refine (next_any _ _ [⟨true, false, 0⟩, ⟨false, false, 0⟩] [] (V.out.own.st (by omega) (by omega))).mono ?_
          rw [show next [⟨true, false, 0⟩, ⟨false, false, 0⟩] [] = 2 from rfl]
          rintro e w47 ⟨rfl, hb⟩
          clear f0 f1 f2 l1 l2 l3 l4
          have V2 := Lib.hid (V.out.call hb)
          clear V
          have V := Lib.hid V2.out
          clear V2 hb
          obtain ⟨l1, l2, l3, l4⟩ := V.out.cells
          dsimp only
          obtain ⟨f0, f1, f2⟩ := V.out.atM
          simp only [List.length_nil, List.length_cons, Nat.zero_mul, Nat.zero_add, Nat.reduceMul, Nat.reduceAdd] at f0 f1 f2
          go_wp2_with fail
          refine (pop_any _ _  _ _ (V.out.own.st (by omega) (by omega)) ).mono ?_
          intro e w48 hg
          obtain ⟨A48, c48, A48', c48', rfl, ho, hb⟩ := (hg.as (ms' := [⟨false, false, 0⟩]) (al' := []) rfl rfl).take (n := 1) (k := 0) rfl rfl
          clear l1 l2 l3 l4 f0 f1 f2
          obtain ⟨k1, k2, k3, k4, hv⟩ := V.out.stored ho hb
          clear V
          obtain ⟨gm, rfl, f0, f1, f2⟩ := hv.headM
          simp only [List.length_nil, List.length_cons, Nat.zero_mul, Nat.zero_add, Nat.reduceMul, Nat.reduceAdd] at f0 f1 f2
          have V := Lib.hid hv
          obtain ⟨l1, l2, l3, l4⟩ := hv.cells
          clear hg ho hb hv
          dsimp only [id]
          go_wp2_with fail
          generalize (w48.setCell ⟨b, 0, none⟩ (.slice (some ⟨gm, 0, none⟩) 1 c48)).setCell ⟨b, 1, none⟩ (.slice A48' 0 c48') = w48s at *
          clear k1 k2 k3 k4
          refine (next_any _ _ [⟨false, false, 0⟩] [] (V.out.own.st (by omega) (by omega))).mono ?_
          rw [show next [⟨false, false, 0⟩] [] = 0 from rfl]
          rintro e w49 ⟨rfl, hb⟩
          clear f0 f1 f2 l1 l2 l3 l4
          have V2 := Lib.hid (V.out.call hb)
          clear V
          have V := Lib.hid V2.out
          clear V2 hb
          obtain ⟨l1, l2, l3, l4⟩ := V.out.cells
          dsimp only
          obtain ⟨f0, f1, f2⟩ := V.out.atM
          simp only [List.length_nil, List.length_cons, Nat.zero_mul, Nat.zero_add, Nat.reduceMul, Nat.reduceAdd] at f0 f1 f2
          go_wp2_with fail
          go_ret
          exact ⟨rfl, V.out.below⟩
        · skip
          have V2 := Lib.hid (show Var w wr b (⟨false, false, 0⟩ :: (rep t ++ [⟨false, false, 1⟩, ⟨false, false, 0⟩])) [⟨code, 3, 0, false, false⟩] (t + 1 + 2) 1 A c A' c' from V.out)
          clear V
          have V := Lib.hid V2.out
          clear V2
          have hlt : q < j := by omega
          go_wp2_with fail
          refine (next_any _ _ (⟨false, false, 0⟩ :: (rep t ++ [⟨false, false, 1⟩, ⟨false, false, 0⟩])) [⟨code, 3, 0, false, false⟩] (V.out.own.st (by omega) (by omega))).mono ?_
          rw [show next (⟨false, false, 0⟩ :: (rep t ++ [⟨false, false, 1⟩, ⟨false, false, 0⟩])) [⟨code, 3, 0, false, false⟩] = 2 from rfl]
          rintro e w61 ⟨rfl, hb⟩
          clear l1 l2 l3 l4
          have V2 := Lib.hid (V.out.call hb)
          clear V
          have V := Lib.hid V2.out
          clear V2 hb
          obtain ⟨l1, l2, l3, l4⟩ := V.out.cells
          dsimp only
          go_wp2_with fail
          refine (pop_any _ _  _ _ (V.out.own.st (by omega) (by omega)) ).mono ?_
          intro e w62 hg
          obtain ⟨A62, c62, A62', c62', rfl, ho, hb⟩ := (hg.as (ms' := (rep t ++ [⟨false, false, 1⟩, ⟨false, false, 0⟩])) (al' := [⟨code, 3, 0, false, false⟩]) rfl rfl).take (n := (t + 2)) (k := 1) (by simp) rfl
          clear l1 l2 l3 l4
          obtain ⟨k1, k2, k3, k4, hv⟩ := V.out.stored ho hb
          clear V
          have V := Lib.hid hv
          obtain ⟨l1, l2, l3, l4⟩ := hv.cells
          clear hg ho hb hv
          dsimp only [id]
          go_wp2_with fail
          generalize (w62.setCell ⟨b, 0, none⟩ (.slice A62 (t + 2) c62)).setCell ⟨b, 1, none⟩ (.slice A62' 1 c62') = w62s at *
          clear k1 k2 k3 k4
          exact ⟨⟨q + 1, t, _, _, _, _, by omega, by go_num, V.out⟩, by simp [intOf]; omega⟩

theorem walk (p q : Int) (w : World) (_wp : (Lit.int .i64 p).wf = true) (_wq : (Lit.int .i64 q).wf = true) :
    Calls Try.prog 5 #[.int .i64 p, .int .i64 q] w fun e w' => e = .returned (.bool true) ∧ Below w.heap.size w w' := by
  by_cases h : p < 0 ∨ 8 < p
  · exact early p q w h
  · obtain ⟨d, rfl⟩ := Int.eq_ofNat_of_zero_le (a := p) (by omega)
    exact core d (by omega) q w
end Go.Proofs.Ytjlbmelpoaffpaa.UnwindReturns
