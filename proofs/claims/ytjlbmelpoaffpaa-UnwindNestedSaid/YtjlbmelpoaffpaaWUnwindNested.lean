/- The walk of besomlaw15.UnwindNested: it returns true, and writes nothing that was there. (Printed by a program of mine.) -/
import Derived.Test.YtjlbmelpoaffpaaUnwV
namespace Go.Proofs.Ytjlbmelpoaffpaa.UnwindNested
open Go.RowKit Unw
set_option linter.unusedSimpArgs false
set_option linter.unusedVariables false

abbrev rep (j : Nat) : List Mk := List.replicate j ⟨false, false, 0⟩
theorem okrep (j : Nat) : okT (rep j) := fun m hm => by rw [List.eq_of_mem_replicate hm]; simp
theorem okcons {m : Mk} {r : List Mk} (h1 : 0 ≤ m.th) (h2 : m.th ≤ 16) (h : okT r) : okT (m :: r) := fun x hx => by
  rcases List.mem_cons.1 hx with rfl | hx
  · exact ⟨h1, h2⟩
  · exact h x hx
theorem replen (j : Nat) : (rep j).length = j := List.length_replicate

set_option maxRecDepth 100000 in
theorem early (p q r : Int) (w : World) (h : p < 1 ∨ 8 < p) :
    Calls Try.prog 3 #[.int .i64 p, .int .i64 q, .int .i64 r] w fun e w' => e = .returned (.bool true) ∧ Below w.heap.size w w' := by
  by_cases h1 : p < 1
  · clear h
    go_enter Try.func3, Try.ntmps3
    go_wp2_with fail
    refine (alive _).mono ?_
    rintro e w1 ⟨rfl, hb1⟩
    dsimp only
    go_wp2_with fail
    go_ret
    exact ⟨rfl, hb1⟩
  · have h2 : 8 < p := by omega
    clear h
    go_enter Try.func3, Try.ntmps3
    go_wp2_with fail
    refine (alive _).mono ?_
    rintro e w1 ⟨rfl, hb1⟩
    dsimp only
    go_wp2_with fail
    go_ret
    exact ⟨rfl, hb1⟩

set_option maxRecDepth 100000 in
set_option maxHeartbeats 4000000 in
theorem core (d : Nat) (hd : d ≤ 7) (first second : Int) (w : World) :
    Calls Try.prog 3 #[.int .i64 ((d : Int) + 1), .int .i64 first, .int .i64 second] w fun e w' => e = .returned (.bool true) ∧ Below w.heap.size w w' := by
  go_enter Try.func3, Try.ntmps3
  go_wp2_with fail
  refine (alive _).mono ?_
  rintro e w0 ⟨rfl, hb0⟩
  dsimp only
  go_wp2_with fail
  have H0 := Lib.hid (Var.start hb0 (OwnedN.nil w0.heap.size w0) hb0.size)
  clear hb0
  generalize w0.alloc (.cells #[.slice none 0 0, .slice none 0 0] 26) = w1 at *
  generalize w0.heap.size = b at *
  go_loopw [8] (fun i wr => ∃ (j : Nat) (A : Option Addr) (c : Nat) (A' : Option Addr) (c' : Nat), j ≤ d + 1 ∧ i = .int .i64 j ∧ Var w wr b (rep j) [] j 0 A c A' c') (fun i _ => d + 1 - (intOf i).toNat)
  case atStart => exact ⟨0, _, _, _, _, Nat.zero_le _, rfl, H0.out⟩
  case round =>
    clear H0
    obtain ⟨j, A, c, A', c', hj, rfl, hv⟩ := hrel
    have V := Lib.hid hv
    obtain ⟨l1, l2, l3, l4⟩ := hv.cells
    clear hv
    by_cases hlt : j < d + 1
    · go_wp2_with fail
      refine (enter_any _ _  _ _ (V.out.own.st (by omega) (by omega)) ).mono ?_
      intro e w1 hg
      obtain ⟨A1, c1, A1', c1', rfl, ho, hb⟩ := hg.take (n := (j + 1)) (k := 0) (by simp) rfl
      clear l1 l2 l3 l4
      obtain ⟨k1, k2, k3, k4, hv⟩ := V.out.stored ho hb
      clear V
      have V := Lib.hid hv
      obtain ⟨l1, l2, l3, l4⟩ := hv.cells
      clear hg ho hb hv
      dsimp only [id]
      go_wp2_with fail
      generalize (w1.setCell ⟨b, 0, none⟩ (.slice A1 (j + 1) c1)).setCell ⟨b, 1, none⟩ (.slice A1' 0 c1') = w1s at *
      clear k1 k2 k3 k4
      exact ⟨⟨j + 1, _, _, _, _, by omega, by go_num, V.out⟩, by simp [intOf]; omega⟩
    · obtain rfl : j = d + 1 := by omega
      have V0 := Lib.hid (show Var w wr b (⟨false, false, 0⟩ :: rep d) [] (d + 1) 0 A c A' c' from V.out)
      clear V
      have V := Lib.hid V0.out
      clear V0
      go_wp2_with fail
      refine (defer_any _ _  _ _ (V.out.own.st (by omega) (by omega)) (okcons (by simp) (by simp) (okrep d))).mono ?_
      intro e w11 hg
      obtain ⟨A11, c11, A11', c11', rfl, ho, hb⟩ := (hg.as (ms' := (⟨false, false, 1⟩ :: rep d)) (al' := []) rfl rfl).take (n := (d + 1)) (k := 0) (by simp) rfl
      clear l1 l2 l3 l4
      obtain ⟨k1, k2, k3, k4, hv⟩ := V.out.stored ho hb
      clear V
      have V := Lib.hid hv
      obtain ⟨l1, l2, l3, l4⟩ := hv.cells
      clear hg ho hb hv
      simp only [show deferB (⟨false, false, 0⟩ :: rep d) = true from rfl]
      go_wp2_with fail
      generalize (w11.setCell ⟨b, 0, none⟩ (.slice A11 (d + 1) c11)).setCell ⟨b, 1, none⟩ (.slice A11' 0 c11') = w11s at *
      clear k1 k2 k3 k4
      refine (panic_any _ _ first 0 _ _ (V.out.own.st (by omega) (by omega)) ).mono ?_
      intro e w12 hg
      obtain ⟨A12, c12, A12', c12', rfl, ho, hb⟩ := (hg.as (ms' := (⟨false, false, 1⟩ :: rep d)) (al' := [⟨first, 0, 0, false, false⟩]) rfl rfl).take (n := (d + 1)) (k := 1) (by simp) rfl
      clear l1 l2 l3 l4
      have V2 := Lib.hid (V.out.call hb)
      clear V
      have V := Lib.hid V2.out
      clear V2
      obtain ⟨l1, l2, l3, l4⟩ := V.out.cells
      have H := Lib.hid ho
      clear hg ho hb
      dsimp only [id]
      go_wp2_with fail
      refine (thunk_any _ _  _ _ (H.out.st (by omega) (by omega)) (by simp; omega) (okcons (by simp) (by simp) (okrep d))).mono ?_
      intro e w13 hg
      obtain ⟨A13, c13, A13', c13', rfl, ho, hb⟩ := (hg.as (ms' := (⟨false, true, 0⟩ :: ⟨false, false, 0⟩ :: rep d)) (al' := [⟨first, 0, (d : Int) + 1 + 1, false, false⟩]) rfl (by simp [thunkA, next_cons, unw])).take (n := (d + 1 + 1)) (k := 1) (by simp) rfl
      clear l1 l2 l3 l4
      obtain ⟨k1, k2, k3, k4, hv⟩ := V.out.stored ho hb
      clear V H
      obtain ⟨g, rfl, d0, d1, d2, d3, d4⟩ := hv.headA
      simp only [List.length_nil, List.length_cons, Nat.zero_mul, Nat.zero_add, Nat.reduceMul, Nat.reduceAdd] at d0 d1 d2 d3 d4
      have V := Lib.hid hv
      obtain ⟨l1, l2, l3, l4⟩ := hv.cells
      clear hg ho hb hv
      dsimp only [id]
      go_wp2_with fail
      generalize (w13.setCell ⟨b, 0, none⟩ (.slice A13 (d + 1 + 1) c13)).setCell ⟨b, 1, none⟩ (.slice (some ⟨g, 0, none⟩) 1 c13') = w13s at *
      clear k1 k2 k3 k4
      refine (next_any _ _ (⟨false, true, 0⟩ :: ⟨false, false, 0⟩ :: rep d) [⟨first, 0, (d : Int) + 1 + 1, false, false⟩] (V.out.own.st (by omega) (by omega))).mono ?_
      rw [show next (⟨false, true, 0⟩ :: ⟨false, false, 0⟩ :: rep d) [⟨first, 0, (d : Int) + 1 + 1, false, false⟩] = 0 from by rw [next_cons]; simp [unw]; omega]
      rintro e w14 ⟨rfl, hb⟩
      clear d0 d1 d2 d3 d4 l1 l2 l3 l4
      have V2 := Lib.hid (V.out.call hb)
      clear V
      have V := Lib.hid V2.out
      clear V2 hb
      obtain ⟨l1, l2, l3, l4⟩ := V.out.cells
      dsimp only
      go_wp2_with fail
      refine (panic_any _ _ second 7 _ _ (V.out.own.st (by omega) (by omega)) ).mono ?_
      intro e w15 hg
      obtain ⟨A15, c15, A15', c15', rfl, ho, hb⟩ := (hg.as (ms' := (⟨false, true, 0⟩ :: ⟨false, false, 0⟩ :: rep d)) (al' := [⟨second, 7, 0, false, false⟩, ⟨first, 0, (d : Int) + 1 + 1, false, false⟩]) rfl rfl).take (n := (d + 1 + 1)) (k := 2) (by simp) rfl
      clear l1 l2 l3 l4
      obtain ⟨k1, k2, k3, k4, hv⟩ := V.out.stored ho hb
      clear V
      have V := Lib.hid hv
      obtain ⟨l1, l2, l3, l4⟩ := hv.cells
      clear hg ho hb hv
      dsimp only [id]
      go_wp2_with fail
      generalize (w15.setCell ⟨b, 0, none⟩ (.slice A15 (d + 1 + 1) c15)).setCell ⟨b, 1, none⟩ (.slice A15' 2 c15') = w15s at *
      clear k1 k2 k3 k4
      refine (next_any _ _ (⟨false, true, 0⟩ :: ⟨false, false, 0⟩ :: rep d) [⟨second, 7, 0, false, false⟩, ⟨first, 0, (d : Int) + 1 + 1, false, false⟩] (V.out.own.st (by omega) (by omega))).mono ?_
      rw [show next (⟨false, true, 0⟩ :: ⟨false, false, 0⟩ :: rep d) [⟨second, 7, 0, false, false⟩, ⟨first, 0, (d : Int) + 1 + 1, false, false⟩] = 2 from rfl]
      rintro e w16 ⟨rfl, hb⟩
      clear l1 l2 l3 l4
      have V2 := Lib.hid (V.out.call hb)
      clear V
      have V := Lib.hid V2.out
      clear V2 hb
      obtain ⟨l1, l2, l3, l4⟩ := V.out.cells
      dsimp only
      go_wp2_with fail
      refine (pop_any _ _  _ _ (V.out.own.st (by omega) (by omega)) ).mono ?_
      intro e w17 hg
      obtain ⟨A17, c17, A17', c17', rfl, ho, hb⟩ := (hg.as (ms' := (⟨false, false, 0⟩ :: rep d)) (al' := [⟨second, 7, 0, false, false⟩]) rfl (by simp [popA, unw, abA, abR])).take (n := (d + 1)) (k := 1) (by simp) rfl
      clear l1 l2 l3 l4
      obtain ⟨k1, k2, k3, k4, hv⟩ := V.out.stored ho hb
      clear V
      obtain ⟨g, rfl, d0, d1, d2, d3, d4⟩ := hv.headA
      simp only [List.length_nil, List.length_cons, Nat.zero_mul, Nat.zero_add, Nat.reduceMul, Nat.reduceAdd] at d0 d1 d2 d3 d4
      have V := Lib.hid hv
      obtain ⟨l1, l2, l3, l4⟩ := hv.cells
      clear hg ho hb hv
      dsimp only [id]
      go_wp2_with fail
      generalize (w17.setCell ⟨b, 0, none⟩ (.slice A17 (d + 1) c17)).setCell ⟨b, 1, none⟩ (.slice (some ⟨g, 0, none⟩) 1 c17') = w17s at *
      clear k1 k2 k3 k4
      refine (next_any _ _ (⟨false, false, 0⟩ :: rep d) [⟨second, 7, 0, false, false⟩] (V.out.own.st (by omega) (by omega))).mono ?_
      rw [show next (⟨false, false, 0⟩ :: rep d) [⟨second, 7, 0, false, false⟩] = 2 from rfl]
      rintro e w18 ⟨rfl, hb⟩
      clear d0 d1 d2 d3 d4 l1 l2 l3 l4
      have V2 := Lib.hid (V.out.call hb)
      clear V
      have V := Lib.hid V2.out
      clear V2 hb
      obtain ⟨l1, l2, l3, l4⟩ := V.out.cells
      dsimp only
      go_wp2_with fail
      go_ret
      exact ⟨rfl, V.out.below⟩

theorem walk (p q r : Int) (w : World) (_wp : (Lit.int .i64 p).wf = true) (_wq : (Lit.int .i64 q).wf = true) (_wr : (Lit.int .i64 r).wf = true) :
    Calls Try.prog 3 #[.int .i64 p, .int .i64 q, .int .i64 r] w fun e w' => e = .returned (.bool true) ∧ Below w.heap.size w w' := by
  by_cases h : p < 1 ∨ 8 < p
  · exact early p q r w h
  · obtain ⟨d, hd⟩ := Int.eq_ofNat_of_zero_le (a := p - 1) (by omega)
    obtain rfl : p = (d : Int) + 1 := by omega
    exact core d (by omega) q r w
end Go.Proofs.Ytjlbmelpoaffpaa.UnwindNested
