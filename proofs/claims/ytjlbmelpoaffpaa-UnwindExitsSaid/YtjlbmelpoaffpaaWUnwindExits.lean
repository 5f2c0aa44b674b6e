/- The walk of besomlaw15.UnwindExits: it returns true, and writes nothing that was there. (Printed by a program of mine.) -/
import Derived.Test.YtjlbmelpoaffpaaUnwV
namespace Go.Proofs.Ytjlbmelpoaffpaa.UnwindExits
open Go.RowKit Unw
set_option linter.unusedSimpArgs false
set_option linter.unusedVariables false

set_option maxRecDepth 100000 in
set_option maxHeartbeats 4000000 in
theorem walk (code : Int) (w : World) (_wp : (Lit.int .i64 code).wf = true) :
    Calls Try.prog 8 #[.int .i64 code] w fun e w' => e = .returned (.bool true) ∧ Below w.heap.size w w' := by
  go_enter Try.func8, Try.ntmps8
  go_wp2_with fail
  refine (alive _).mono ?_
  rintro e w0 ⟨rfl, hb0⟩
  dsimp only
  go_wp2_with fail
  refine (enter_any _ _ [] [] (St.empty w0)).mono ?_
  intro e wa hg
  obtain ⟨Aa, ca, Aa', ca', rfl, ho, hb⟩ := hg.take (n := 1) (k := 0) rfl rfl
  have V := Lib.hid (Var.start (fresh_call hb0 hb) ho hb0.size)
  obtain ⟨l1, l2, l3, l4⟩ := V.out.cells
  clear hg ho hb hb0
  dsimp only [id]
  go_wp2_with fail
  generalize wa.alloc (.cells #[.slice Aa 1 ca, .slice Aa' 0 ca'] 26) = was at *
  generalize wa.heap.size = b at *
  refine (defer_any _ _  _ _ (V.out.own.st (by omega) (by omega)) (by simp [okT])).mono ?_
  intro e w1 hg
  obtain ⟨A1, c1, A1', c1', rfl, ho, hb⟩ := (hg.as (ms' := [⟨false, false, 1⟩]) (al' := []) rfl rfl).take (n := 1) (k := 0) rfl rfl
  clear l1 l2 l3 l4
  obtain ⟨k1, k2, k3, k4, hv⟩ := V.out.stored ho hb
  clear V
  have V := Lib.hid hv
  obtain ⟨l1, l2, l3, l4⟩ := hv.cells
  clear hg ho hb hv
  simp only [show deferB [⟨false, false, 0⟩] = true from rfl]
  go_wp2_with fail
  generalize (w1.setCell ⟨b, 0, none⟩ (.slice A1 1 c1)).setCell ⟨b, 1, none⟩ (.slice A1' 0 c1') = w1s at *
  clear k1 k2 k3 k4
  refine (defer_any _ _  _ _ (V.out.own.st (by omega) (by omega)) (by simp [okT])).mono ?_
  intro e w2 hg
  obtain ⟨A2, c2, A2', c2', rfl, ho, hb⟩ := (hg.as (ms' := [⟨false, false, 2⟩]) (al' := []) rfl rfl).take (n := 1) (k := 0) rfl rfl
  clear l1 l2 l3 l4
  obtain ⟨k1, k2, k3, k4, hv⟩ := V.out.stored ho hb
  clear V
  have V := Lib.hid hv
  obtain ⟨l1, l2, l3, l4⟩ := hv.cells
  clear hg ho hb hv
  simp only [show deferB [⟨false, false, 1⟩] = true from rfl]
  go_wp2_with fail
  generalize (w2.setCell ⟨b, 0, none⟩ (.slice A2 1 c2)).setCell ⟨b, 1, none⟩ (.slice A2' 0 c2') = w2s at *
  clear k1 k2 k3 k4
  refine (exit_any _ _  _ _ (V.out.own.st (by omega) (by omega)) ).mono ?_
  intro e w3 hg
  obtain ⟨A3, c3, A3', c3', rfl, ho, hb⟩ := (hg.as (ms' := [⟨false, false, 2⟩]) (al' := [⟨0, 0, 0, true, false⟩]) rfl rfl).take (n := 1) (k := 1) rfl rfl
  clear l1 l2 l3 l4
  have V2 := Lib.hid (V.out.call hb)
  clear V
  have V := Lib.hid V2.out
  clear V2
  obtain ⟨l1, l2, l3, l4⟩ := V.out.cells
  have H := Lib.hid ho
  clear hg ho hb
  dsimp only [id]
  go_wp2_with fail
  refine (thunk_any _ _  _ _ (H.out.st (by omega) (by omega)) (by simp) (by simp [okT])).mono ?_
  intro e w4 hg
  obtain ⟨A4, c4, A4', c4', rfl, ho, hb⟩ := (hg.as (ms' := [⟨false, true, 0⟩, ⟨false, false, 1⟩]) (al' := [⟨0, 0, 2, true, false⟩]) rfl rfl).take (n := 2) (k := 1) rfl rfl
  clear l1 l2 l3 l4
  obtain ⟨k1, k2, k3, k4, hv⟩ := V.out.stored ho hb
  clear V H
  have V := Lib.hid hv
  obtain ⟨l1, l2, l3, l4⟩ := hv.cells
  clear hg ho hb hv
  dsimp only [id]
  go_wp2_with fail
  generalize (w4.setCell ⟨b, 0, none⟩ (.slice A4 2 c4)).setCell ⟨b, 1, none⟩ (.slice A4' 1 c4') = w4s at *
  clear k1 k2 k3 k4
  refine (recover_no _ _  _ _ (V.out.own.st (by omega) (by omega)) rfl).mono ?_
  intro e w5 hg
  obtain ⟨A5, c5, A5', c5', rfl, ho, hb⟩ := (hg.as (ms' := [⟨false, true, 0⟩, ⟨false, false, 1⟩]) (al' := [⟨0, 0, 2, true, false⟩]) rfl rfl).take (n := 2) (k := 1) rfl rfl
  clear l1 l2 l3 l4
  have V2 := Lib.hid ((V.out.call hb).alloc (.cells #[.slice A5 2 c5, .slice A5' 1 c5'] 26))
  obtain ⟨k1, k2, k3, k4⟩ := (V.out.call hb).cells
  have klt := (V.out.call hb).blk.lt
  clear V
  have V := Lib.hid V2.out
  clear V2
  obtain ⟨l1, l2, l3, l4⟩ := V.out.cells
  clear hg ho hb
  simp only [recF]
  go_wp2_with fail
  generalize w5.alloc (.cells #[.slice A5 2 c5, .slice A5' 1 c5'] 26) = w5s at *
  clear k1 k2 k3 k4 klt
  refine (next_any _ _ [⟨false, true, 0⟩, ⟨false, false, 1⟩] [⟨0, 0, 2, true, false⟩] (V.out.own.st (by omega) (by omega))).mono ?_
  rw [show next [⟨false, true, 0⟩, ⟨false, false, 1⟩] [⟨0, 0, 2, true, false⟩] = 0 from rfl]
  rintro e w6 ⟨rfl, hb⟩
  clear l1 l2 l3 l4
  have V2 := Lib.hid (V.out.call hb)
  clear V
  have V := Lib.hid V2.out
  clear V2 hb
  obtain ⟨l1, l2, l3, l4⟩ := V.out.cells
  dsimp only
  go_wp2_with fail
  refine (panic_any _ _ code 0 _ _ (V.out.own.st (by omega) (by omega)) ).mono ?_
  intro e w7 hg
  obtain ⟨A7, c7, A7', c7', rfl, ho, hb⟩ := (hg.as (ms' := [⟨false, true, 0⟩, ⟨false, false, 1⟩]) (al' := [⟨code, 0, 0, false, false⟩, ⟨0, 0, 2, true, false⟩]) rfl rfl).take (n := 2) (k := 2) rfl rfl
  clear l1 l2 l3 l4
  obtain ⟨k1, k2, k3, k4, hv⟩ := V.out.stored ho hb
  clear V
  have V := Lib.hid hv
  obtain ⟨l1, l2, l3, l4⟩ := hv.cells
  clear hg ho hb hv
  dsimp only [id]
  go_wp2_with fail
  generalize (w7.setCell ⟨b, 0, none⟩ (.slice A7 2 c7)).setCell ⟨b, 1, none⟩ (.slice A7' 2 c7') = w7s at *
  clear k1 k2 k3 k4
  refine (next_any _ _ [⟨false, true, 0⟩, ⟨false, false, 1⟩] [⟨code, 0, 0, false, false⟩, ⟨0, 0, 2, true, false⟩] (V.out.own.st (by omega) (by omega))).mono ?_
  rw [show next [⟨false, true, 0⟩, ⟨false, false, 1⟩] [⟨code, 0, 0, false, false⟩, ⟨0, 0, 2, true, false⟩] = 2 from rfl]
  rintro e w8 ⟨rfl, hb⟩
  clear l1 l2 l3 l4
  have V2 := Lib.hid (V.out.call hb)
  clear V
  have V := Lib.hid V2.out
  clear V2 hb
  obtain ⟨l1, l2, l3, l4⟩ := V.out.cells
  dsimp only
  go_wp2_with fail
  refine (pop_any _ _  _ _ (V.out.own.st (by omega) (by omega)) ).mono ?_
  intro e w9 hg
  obtain ⟨A9, c9, A9', c9', rfl, ho, hb⟩ := (hg.as (ms' := [⟨false, false, 1⟩]) (al' := [⟨code, 0, 0, false, false⟩, ⟨0, 0, 0, true, false⟩]) rfl rfl).take (n := 1) (k := 2) rfl rfl
  clear l1 l2 l3 l4
  obtain ⟨k1, k2, k3, k4, hv⟩ := V.out.stored ho hb
  clear V
  have V := Lib.hid hv
  obtain ⟨l1, l2, l3, l4⟩ := hv.cells
  clear hg ho hb hv
  dsimp only [id]
  go_wp2_with fail
  generalize (w9.setCell ⟨b, 0, none⟩ (.slice A9 1 c9)).setCell ⟨b, 1, none⟩ (.slice A9' 2 c9') = w9s at *
  clear k1 k2 k3 k4
  refine (next_any _ _ [⟨false, false, 1⟩] [⟨code, 0, 0, false, false⟩, ⟨0, 0, 0, true, false⟩] (V.out.own.st (by omega) (by omega))).mono ?_
  rw [show next [⟨false, false, 1⟩] [⟨code, 0, 0, false, false⟩, ⟨0, 0, 0, true, false⟩] = 1 from rfl]
  rintro e w10 ⟨rfl, hb⟩
  clear l1 l2 l3 l4
  have V2 := Lib.hid (V.out.call hb)
  clear V
  have V := Lib.hid V2.out
  clear V2 hb
  obtain ⟨l1, l2, l3, l4⟩ := V.out.cells
  dsimp only
  go_wp2_with fail
  refine (thunk_any _ _  _ _ (V.out.own.st (by omega) (by omega)) (by simp) (by simp [okT])).mono ?_
  intro e w11 hg
  obtain ⟨A11, c11, A11', c11', rfl, ho, hb⟩ := (hg.as (ms' := [⟨false, true, 0⟩, ⟨false, false, 0⟩]) (al' := [⟨code, 0, 2, false, false⟩, ⟨0, 0, 0, true, false⟩]) rfl rfl).take (n := 2) (k := 2) rfl rfl
  clear l1 l2 l3 l4
  obtain ⟨k1, k2, k3, k4, hv⟩ := V.out.stored ho hb
  clear V
  have V := Lib.hid hv
  obtain ⟨l1, l2, l3, l4⟩ := hv.cells
  clear hg ho hb hv
  dsimp only [id]
  go_wp2_with fail
  generalize (w11.setCell ⟨b, 0, none⟩ (.slice A11 2 c11)).setCell ⟨b, 1, none⟩ (.slice A11' 2 c11') = w11s at *
  clear k1 k2 k3 k4
  refine (recover_yes _ _  _ _ _ (V.out.own.st (by omega) (by omega)) rfl).mono ?_
  intro e w12 hg
  obtain ⟨A12, c12, A12', c12', rfl, ho, hb⟩ := (hg.as (ms' := [⟨false, true, 0⟩, ⟨false, false, 0⟩]) (al' := [⟨code, 0, 2, false, true⟩, ⟨0, 0, 0, true, false⟩]) rfl rfl).take (n := 2) (k := 2) rfl rfl
  clear l1 l2 l3 l4
  obtain ⟨k1, k2, k3, k4, hv⟩ := V.out.stored ho hb
  clear V
  have V := Lib.hid hv
  obtain ⟨l1, l2, l3, l4⟩ := hv.cells
  clear hg ho hb hv
  simp only [recF]
  go_wp2_with fail
  generalize (w12.setCell ⟨b, 0, none⟩ (.slice A12 2 c12)).setCell ⟨b, 1, none⟩ (.slice A12' 2 c12') = w12s at *
  clear k1 k2 k3 k4
  refine (leave_any _ _  _ _ (V.out.own.st (by omega) (by omega)) ).mono ?_
  intro e w13 hg
  obtain ⟨A13, c13, A13', c13', rfl, ho, hb⟩ := (hg.as (ms' := [⟨true, true, 0⟩, ⟨false, false, 0⟩]) (al' := [⟨code, 0, 2, false, true⟩, ⟨0, 0, 0, true, false⟩]) rfl rfl).take (n := 2) (k := 2) rfl rfl
  clear l1 l2 l3 l4
  have V2 := Lib.hid (V.out.call hb)
  clear V
  have V := Lib.hid V2.out
  clear V2
  obtain ⟨l1, l2, l3, l4⟩ := V.out.cells
  have H := Lib.hid ho
  clear hg ho hb
  dsimp only [id]
  go_wp2_with fail
  refine (pop_any _ _  _ _ (H.out.st (by omega) (by omega)) ).mono ?_
  intro e w14 hg
  obtain ⟨A14, c14, A14', c14', rfl, ho, hb⟩ := (hg.as (ms' := [⟨true, false, 0⟩]) (al' := [⟨0, 0, 0, true, false⟩]) rfl rfl).take (n := 1) (k := 1) rfl rfl
  clear l1 l2 l3 l4
  obtain ⟨k1, k2, k3, k4, hv⟩ := V.out.stored ho hb
  clear V H
  obtain ⟨g, rfl, d0, d1, d2, d3, d4⟩ := hv.headA
  simp only [List.length_nil, List.length_cons, Nat.zero_mul, Nat.zero_add, Nat.reduceMul, Nat.reduceAdd] at d0 d1 d2 d3 d4
  have V := Lib.hid hv
  obtain ⟨l1, l2, l3, l4⟩ := hv.cells
  clear hg ho hb hv
  dsimp only [id]
  go_wp2_with fail
  generalize (w14.setCell ⟨b, 0, none⟩ (.slice A14 1 c14)).setCell ⟨b, 1, none⟩ (.slice (some ⟨g, 0, none⟩) 1 c14') = w14s at *
  clear k1 k2 k3 k4
  refine (next_any _ _ [⟨true, false, 0⟩] [⟨0, 0, 0, true, false⟩] (V.out.own.st (by omega) (by omega))).mono ?_
  rw [show next [⟨true, false, 0⟩] [⟨0, 0, 0, true, false⟩] = 2 from rfl]
  rintro e w15 ⟨rfl, hb⟩
  clear d0 d1 d2 d3 d4 l1 l2 l3 l4
  have V2 := Lib.hid (V.out.call hb)
  clear V
  have V := Lib.hid V2.out
  clear V2 hb
  obtain ⟨l1, l2, l3, l4⟩ := V.out.cells
  dsimp only
  go_wp2_with fail
  refine (pop_any _ _  _ _ (V.out.own.st (by omega) (by omega)) ).mono ?_
  intro e w16 hg
  obtain ⟨A16, c16, A16', c16', rfl, ho, hb⟩ := (hg.as (ms' := []) (al' := [⟨0, 0, 0, true, false⟩]) rfl rfl).take (n := 0) (k := 1) rfl rfl
  clear l1 l2 l3 l4
  obtain ⟨k1, k2, k3, k4, hv⟩ := V.out.stored ho hb
  clear V
  have V := Lib.hid hv
  obtain ⟨l1, l2, l3, l4⟩ := hv.cells
  clear hg ho hb hv
  dsimp only [id]
  go_wp2_with fail
  generalize (w16.setCell ⟨b, 0, none⟩ (.slice A16 0 c16)).setCell ⟨b, 1, none⟩ (.slice A16' 1 c16') = w16s at *
  clear k1 k2 k3 k4
  refine (next_any _ _ [] [⟨0, 0, 0, true, false⟩] (V.out.own.st (by omega) (by omega))).mono ?_
  rw [show next [] [⟨0, 0, 0, true, false⟩] = 3 from rfl]
  rintro e w17 ⟨rfl, hb⟩
  clear l1 l2 l3 l4
  have V2 := Lib.hid (V.out.call hb)
  clear V
  have V := Lib.hid V2.out
  clear V2 hb
  obtain ⟨l1, l2, l3, l4⟩ := V.out.cells
  dsimp only
  go_wp2_with fail
  go_ret
  exact ⟨rfl, V.out.below⟩
end Go.Proofs.Ytjlbmelpoaffpaa.UnwindExits
