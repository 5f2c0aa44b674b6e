/- The walk of besomlaw15.UnwindStays: it returns true, and writes nothing that was there. (Printed by a program of mine.) -/
import Derived.Test.YtjlbmelpoaffpaaUnwV
namespace Go.Proofs.Ytjlbmelpoaffpaa.UnwindStays
open Go.RowKit Unw
set_option linter.unusedSimpArgs false
set_option linter.unusedVariables false

abbrev rep (j : Nat) : List Mk := List.replicate j ⟨false, false, 0⟩
theorem okrep (j : Nat) : okT (rep j) := fun m hm => by rw [List.eq_of_mem_replicate hm]; simp
theorem okcons {m : Mk} {r : List Mk} (h1 : 0 ≤ m.th) (h2 : m.th ≤ 16) (h : okT r) : okT (m :: r) := fun x hx => by
  rcases List.mem_cons.1 hx with rfl | hx
  · exact ⟨h1, h2⟩
  · exact h x hx

theorem field0 (w : World) (A : Option Addr) (n c : Nat) (A' : Option Addr) (k c' : Nat) : (Instr.field 26 (.agg #[.slice A n c, .slice A' k c']) 0).run Try.prog w = .ok (.slice A n c) w := by kernel_rfl

set_option maxRecDepth 100000 in
theorem early (p q : Int) (w : World) (h : p < 0 ∨ 10 < p ∨ q < 0 ∨ 20 < q) :
    Calls Try.prog 4 #[.int .i64 p, .int .i64 q] w fun e w' => e = .returned (.bool true) ∧ Below w.heap.size w w' := by
  by_cases h0 : p < 0
  · clear h
    go_enter Try.func4, Try.ntmps4
    go_wp2_with fail
    refine (alive _).mono ?_
    rintro e w1 ⟨rfl, hb1⟩
    dsimp only
    go_wp2_with fail
    go_ret
    exact ⟨rfl, hb1⟩
  by_cases h1 : 10 < p
  · clear h
    go_enter Try.func4, Try.ntmps4
    go_wp2_with fail
    refine (alive _).mono ?_
    rintro e w1 ⟨rfl, hb1⟩
    dsimp only
    go_wp2_with fail
    go_ret
    exact ⟨rfl, hb1⟩
  by_cases h2 : q < 0
  · clear h
    go_enter Try.func4, Try.ntmps4
    go_wp2_with fail
    refine (alive _).mono ?_
    rintro e w1 ⟨rfl, hb1⟩
    dsimp only
    go_wp2_with fail
    go_ret
    exact ⟨rfl, hb1⟩
  by_cases h3 : 20 < q
  · clear h
    go_enter Try.func4, Try.ntmps4
    go_wp2_with fail
    refine (alive _).mono ?_
    rintro e w1 ⟨rfl, hb1⟩
    dsimp only
    go_wp2_with fail
    go_ret
    exact ⟨rfl, hb1⟩
  omega

set_option maxRecDepth 100000 in
set_option maxHeartbeats 4000000 in
theorem core (n t : Nat) (hn : n ≤ 10) (ht : t ≤ 20) (w : World) :
    Calls Try.prog 4 #[.int .i64 n, .int .i64 t] w fun e w' => e = .returned (.bool true) ∧ Below w.heap.size w w' := by
  have hfd := field0
  go_enter Try.func4, Try.ntmps4
  go_wp2_with fail
  refine (alive _).mono ?_
  rintro e w0 ⟨rfl, hb0⟩
  dsimp only
  go_wp2_with fail
  have V := Lib.hid (Var.start hb0 (OwnedN.nil w0.heap.size w0) hb0.size)
  obtain ⟨l1, l2, l3, l4⟩ := V.out.cells
  clear hb0
  generalize w0.alloc (.cells #[.slice none 0 0, .slice none 0 0] 26) = w1 at *
  generalize w0.heap.size = b at *
  refine (next_any _ _ [] [] (V.out.own.st (by omega) (by omega))).mono ?_
  rw [show next [] [] = 3 from rfl]
  rintro e w2 ⟨rfl, hb⟩
  clear l1 l2 l3 l4
  have V2 := Lib.hid (V.out.call hb)
  clear V
  have V := Lib.hid V2.out
  clear V2 hb
  obtain ⟨l1, l2, l3, l4⟩ := V.out.cells
  dsimp only
  go_wp2_with fail
  refine (pop_any _ _  _ _ (V.out.own.st (by omega) (by omega)) ).mono ?_
  intro e w3 hg
  obtain ⟨A3, c3, A3', c3', rfl, ho, hb⟩ := (hg.as (ms' := []) (al' := []) rfl rfl).take (n := 0) (k := 0) rfl rfl
  clear l1 l2 l3 l4
  have V2 := Lib.hid (V.out.call hb)
  clear V
  have V := Lib.hid V2.out
  clear V2
  obtain ⟨l1, l2, l3, l4⟩ := V.out.cells
  clear hg ho hb
  dsimp only [id]
  go_wp2_with fail
  refine (thunk_any _ _  _ _ (V.out.own.st (by omega) (by omega)) (by simp) (by simp [okT])).mono ?_
  intro e w4 hg
  obtain ⟨A4, c4, A4', c4', rfl, ho, hb⟩ := (hg.as (ms' := []) (al' := []) rfl rfl).take (n := 0) (k := 0) rfl rfl
  clear l1 l2 l3 l4
  have V2 := Lib.hid (V.out.call hb)
  clear V
  have V := Lib.hid V2.out
  clear V2
  obtain ⟨l1, l2, l3, l4⟩ := V.out.cells
  clear hg ho hb
  dsimp only [id]
  go_wp2_with fail
  refine (leave_any _ _  _ _ (V.out.own.st (by omega) (by omega)) ).mono ?_
  intro e w5 hg
  obtain ⟨A5, c5, A5', c5', rfl, ho, hb⟩ := (hg.as (ms' := []) (al' := []) rfl rfl).take (n := 0) (k := 0) rfl rfl
  clear l1 l2 l3 l4
  have V2 := Lib.hid (V.out.call hb)
  clear V
  have V := Lib.hid V2.out
  clear V2
  obtain ⟨l1, l2, l3, l4⟩ := V.out.cells
  clear hg ho hb
  dsimp only [id]
  go_wp2_with fail
  refine (defer_any _ _  _ _ (V.out.own.st (by omega) (by omega)) (by simp [okT])).mono ?_
  intro e w6 hg
  obtain ⟨A6, c6, A6', c6', rfl, ho, hb⟩ := (hg.as (ms' := []) (al' := []) rfl rfl).take (n := 0) (k := 0) rfl rfl
  clear l1 l2 l3 l4
  have V2 := Lib.hid ((V.out.call hb).alloc (.cells #[.slice A6 0 c6, .slice A6' 0 c6'] 26))
  obtain ⟨k1, k2, k3, k4⟩ := (V.out.call hb).cells
  have klt := (V.out.call hb).blk.lt
  clear V
  have V := Lib.hid V2.out
  clear V2
  obtain ⟨l1, l2, l3, l4⟩ := V.out.cells
  clear hg ho hb
  simp only [show deferB [] = false from rfl]
  go_wp2_with fail
  generalize w6.alloc (.cells #[.slice A6 0 c6, .slice A6' 0 c6'] 26) = w6s at *
  clear k1 k2 k3 k4 klt
  refine (recover_no _ _  _ _ (V.out.own.st (by omega) (by omega)) rfl).mono ?_
  intro e w7 hg
  obtain ⟨A7, c7, A7', c7', rfl, ho, hb⟩ := (hg.as (ms' := []) (al' := []) rfl rfl).take (n := 0) (k := 0) rfl rfl
  clear l1 l2 l3 l4
  have V2 := Lib.hid ((V.out.call hb).alloc (.cells #[.slice A7 0 c7, .slice A7' 0 c7'] 26))
  obtain ⟨k1, k2, k3, k4⟩ := (V.out.call hb).cells
  have klt := (V.out.call hb).blk.lt
  clear V
  have V := Lib.hid V2.out
  clear V2
  obtain ⟨l1, l2, l3, l4⟩ := V.out.cells
  clear hg ho hb
  simp only [recF]
  go_wp2_with fail
  generalize w7.alloc (.cells #[.slice A7 0 c7, .slice A7' 0 c7'] 26) = w7s at *
  clear k1 k2 k3 k4 klt
  clear l1 l2 l3 l4
  have H0 := Lib.hid V.out
  clear V
  go_loopw [12] (fun i wr => ∃ (j : Nat) (A : Option Addr) (c : Nat) (A' : Option Addr) (c' : Nat), j ≤ n ∧ i = .int .i64 j ∧ Var w wr b (rep j) [] j 0 A c A' c') (fun i _ => n - (intOf i).toNat)
  case atStart => exact ⟨0, _, _, _, _, Nat.zero_le _, rfl, H0.out⟩
  case round =>
    clear H0
    obtain ⟨j, A, c, A', c', hj, rfl, hv⟩ := hrel
    have V := Lib.hid hv
    obtain ⟨l1, l2, l3, l4⟩ := hv.cells
    clear hv
    by_cases hlt : j < n
    · go_wp2_with fail
      refine (enter_any _ _  _ _ (V.out.own.st (by omega) (by omega)) ).mono ?_
      intro e w21 hg
      obtain ⟨A21, c21, A21', c21', rfl, ho, hb⟩ := hg.take (n := (j + 1)) (k := 0) (by simp) rfl
      clear l1 l2 l3 l4
      obtain ⟨k1, k2, k3, k4, hv⟩ := V.out.stored ho hb
      clear V
      have V := Lib.hid hv
      obtain ⟨l1, l2, l3, l4⟩ := hv.cells
      clear hg ho hb hv
      dsimp only [id]
      go_wp2_with fail
      generalize (w21.setCell ⟨b, 0, none⟩ (.slice A21 (j + 1) c21)).setCell ⟨b, 1, none⟩ (.slice A21' 0 c21') = w21s at *
      clear k1 k2 k3 k4
      exact ⟨⟨j + 1, _, _, _, _, by omega, by go_num, V.out⟩, by simp [intOf]; omega⟩
    · obtain rfl : j = n := by omega
      clear hj hlt
      rcases j with _ | d
      · have V0 := Lib.hid (show Var w wr b [] [] 0 0 A c A' c' from V.out)
        clear V
        have V := Lib.hid V0.out
        clear V0
        go_wp2_with fail
        go_loop [13] (fun i => i = .int .i64 0) (fun i => 0)
        case atStart => rfl
        case round =>
          subst hrel
          by_cases ht0 : (0 : Int) < (t : Int)
          all_goals
            go_wp2_with fail
            refine (recover_no _ _  _ _ (V.out.own.st (by omega) (by omega)) rfl).mono ?_
            intro e w31 hg
            obtain ⟨A31, c31, A31', c31', rfl, ho, hb⟩ := (hg.as (ms' := []) (al' := []) rfl rfl).take (n := 0) (k := 0) rfl rfl
            clear l1 l2 l3 l4
            have V2 := Lib.hid (V.out.call hb)
            clear V
            have V := Lib.hid V2.out
            clear V2
            obtain ⟨l1, l2, l3, l4⟩ := V.out.cells
            clear hg ho hb
            simp only [recF]
            go_wp2_with fail
            refine (thunk_any _ _  _ _ (V.out.own.st (by omega) (by omega)) (by simp) (by simp [okT])).mono ?_
            intro e w32 hg
            obtain ⟨A32, c32, A32', c32', rfl, ho, hb⟩ := (hg.as (ms' := []) (al' := []) rfl rfl).take (n := 0) (k := 0) rfl rfl
            clear l1 l2 l3 l4
            have V2 := Lib.hid (V.out.call hb)
            clear V
            have V := Lib.hid V2.out
            clear V2
            obtain ⟨l1, l2, l3, l4⟩ := V.out.cells
            clear hg ho hb
            dsimp only [id]
            go_wp2_with fail
            go_ret
            exact ⟨rfl, V.out.below⟩
      · have V0 := Lib.hid (show Var w wr b (⟨false, false, ((min 0 16 : Nat) : Int)⟩ :: rep d) [] (d + 1) 0 A c A' c' from V.out)
        clear V
        go_wp2_with fail
        go_loopw [13] (fun i wx => ∃ (j : Nat) (A : Option Addr) (c : Nat) (A' : Option Addr) (c' : Nat), j ≤ t ∧ i = .int .i64 j ∧ Var w wx b (⟨false, false, ((min j 16 : Nat) : Int)⟩ :: rep d) [] (d + 1) 0 A c A' c') (fun i _ => t - (intOf i).toNat)
        case atStart => exact ⟨0, _, _, _, _, Nat.zero_le _, rfl, V0.out⟩
        case round =>
          clear V0 l1 l2 l3 l4
          obtain ⟨j, A, c, A', c', hj, rfl, hv⟩ := hrel
          have V := Lib.hid hv
          obtain ⟨l1, l2, l3, l4⟩ := hv.cells
          clear hv
          have hd0 : decide ((0 : Int) < (d : Int) + 1) = true := decide_eq_true (by omega)
          have hokT := Lib.hid (show okT (⟨false, false, ((min j 16 : Nat) : Int)⟩ :: rep d) from okcons (by simp; try omega) (by simp; try omega) (okrep d))
          by_cases hlt : j < t
          · by_cases h16 : j < 16
            · have hD : deferB (⟨false, false, ((min j 16 : Nat) : Int)⟩ :: rep d) = true := decide_eq_true (show ((min j 16 : Nat) : Int) < 16 by omega)
              have hM : deferM (⟨false, false, ((min j 16 : Nat) : Int)⟩ :: rep d) = ⟨false, false, ((min (j + 1) 16 : Nat) : Int)⟩ :: rep d := by simp only [deferM]; rw [if_pos (show ((min j 16 : Nat) : Int) < 16 by omega), show ((min j 16 : Nat) : Int) + 1 = ((min (j + 1) 16 : Nat) : Int) by omega]
              have HD := Lib.hid hD
              have HM := Lib.hid hM
              have hdd : decide ((j : Int) < 16) = true := decide_eq_true (by omega)
              clear hD hM
              go_wp2_with fail
              refine (defer_any _ _ _ _ (V.out.own.st (by omega) (by omega)) hokT.out).mono ?_
              intro e w41 hg
              obtain ⟨A41, c41, A41', c41', rfl, ho, hb⟩ := (hg.as (ms' := (⟨false, false, ((min (j + 1) 16 : Nat) : Int)⟩ :: rep d)) (al' := []) HM.out rfl).take (n := d + 1) (k := 0) (by simp) rfl
              clear l1 l2 l3 l4
              have VE := Lib.hid (((V.out.call hb).put (ho.mono V.out.below.size)).alloc (.cells #[.slice A41 (d + 1) c41, .slice A41' 0 c41'] 26))
              obtain ⟨k1, k2, k3, k4⟩ := (V.out.call hb).cells
              have klt := (V.out.call hb).blk.lt
              clear V hg ho hb
              simp only [HD.out]
              go_wp2_with fail
              exact ⟨⟨j + 1, _, _, _, _, by omega, by go_num, VE.out⟩, by simp [intOf]; omega⟩
            · have hD : deferB (⟨false, false, ((min j 16 : Nat) : Int)⟩ :: rep d) = false := decide_eq_false (show ¬ ((min j 16 : Nat) : Int) < 16 by omega)
              have hM : deferM (⟨false, false, ((min j 16 : Nat) : Int)⟩ :: rep d) = ⟨false, false, ((min (j + 1) 16 : Nat) : Int)⟩ :: rep d := by simp only [deferM]; rw [if_neg (show ¬ ((min j 16 : Nat) : Int) < 16 by omega), show ((min j 16 : Nat) : Int) = ((min (j + 1) 16 : Nat) : Int) by omega]
              have HD := Lib.hid hD
              have HM := Lib.hid hM
              have hdd : decide ((j : Int) < 16) = false := decide_eq_false (by omega)
              clear hD hM
              go_wp2_with fail
              refine (defer_any _ _ _ _ (V.out.own.st (by omega) (by omega)) hokT.out).mono ?_
              intro e w41 hg
              obtain ⟨A41, c41, A41', c41', rfl, ho, hb⟩ := (hg.as (ms' := (⟨false, false, ((min (j + 1) 16 : Nat) : Int)⟩ :: rep d)) (al' := []) HM.out rfl).take (n := d + 1) (k := 0) (by simp) rfl
              clear l1 l2 l3 l4
              have VE := Lib.hid (((V.out.call hb).put (ho.mono V.out.below.size)).alloc (.cells #[.slice A41 (d + 1) c41, .slice A41' 0 c41'] 26))
              obtain ⟨k1, k2, k3, k4⟩ := (V.out.call hb).cells
              have klt := (V.out.call hb).blk.lt
              clear V hg ho hb
              simp only [HD.out]
              go_wp2_with fail
              exact ⟨⟨j + 1, _, _, _, _, by omega, by go_num, VE.out⟩, by simp [intOf]; omega⟩
          · obtain rfl : j = t := by omega
            have hne : (((d : Int) + 1) == 0) = false := by simp; omega
            obtain ⟨gm, rfl, _, _, _⟩ := V.out.headM
            go_wp2_with fail
            refine (recover_no _ _  _ _ (V.out.own.st (by omega) (by omega)) rfl).mono ?_
            intro e w61 hg
            obtain ⟨A61, c61, A61', c61', rfl, ho, hb⟩ := (hg.as (ms' := (⟨false, false, ((min j 16 : Nat) : Int)⟩ :: rep d)) (al' := []) rfl rfl).take (n := (d + 1)) (k := 0) (by simp) rfl
            clear l1 l2 l3 l4
            have V2 := Lib.hid (V.out.call hb)
            clear V
            have V := Lib.hid V2.out
            clear V2
            obtain ⟨l1, l2, l3, l4⟩ := V.out.cells
            clear hg ho hb
            simp only [recF]
            go_wp2_with fail
            refine (thunk_any _ _  _ _ (V.out.own.st (by omega) (by omega)) (by simp; omega) hokT.out).mono ?_
            intro e w62 hg
            obtain ⟨A62, c62, A62', c62', rfl, ho, hb⟩ := (hg.as (ms' := (⟨false, false, ((min j 16 : Nat) : Int)⟩ :: rep d)) (al' := []) (by simp [thunkM, next_cons, unw]) (by simp [thunkA])).take (n := (d + 1)) (k := 0) (by simp) rfl
            clear l1 l2 l3 l4
            have V2 := Lib.hid (V.out.call hb)
            clear V
            have V := Lib.hid V2.out
            clear V2
            obtain ⟨l1, l2, l3, l4⟩ := V.out.cells
            obtain ⟨f0, f1, f2⟩ := V.out.atM
            simp only [List.length_nil, List.length_cons, List.length_replicate, Nat.zero_mul, Nat.zero_add, Nat.reduceMul, Nat.reduceAdd] at f0 f1 f2
            clear hg ho hb
            dsimp only [id]
            go_wp2_with fail
            all_goals
              refine (next_any _ _ (⟨false, false, ((min j 16 : Nat) : Int)⟩ :: rep d) [] (V.out.own.st (by omega) (by omega))).mono ?_
              rw [show next (⟨false, false, ((min j 16 : Nat) : Int)⟩ :: rep d) [] = 0 from by rw [next_cons]; simp [unw]]
              rintro e w63 ⟨rfl, hb⟩
              clear l1 l2 l3 l4 f0 f1 f2
              have V2 := Lib.hid (V.out.call hb)
              clear V
              have V := Lib.hid V2.out
              clear V2 hb
              obtain ⟨l1, l2, l3, l4⟩ := V.out.cells
              dsimp only
              go_wp2_with fail
              go_ret
              exact ⟨rfl, V.out.below⟩

theorem walk (p q : Int) (w : World) (_wp : (Lit.int .i64 p).wf = true) (_wq : (Lit.int .i64 q).wf = true) :
    Calls Try.prog 4 #[.int .i64 p, .int .i64 q] w fun e w' => e = .returned (.bool true) ∧ Below w.heap.size w w' := by
  by_cases h : p < 0 ∨ 10 < p ∨ q < 0 ∨ 20 < q
  · exact early p q w h
  · obtain ⟨d, rfl⟩ := Int.eq_ofNat_of_zero_le (a := p) (by omega)
    obtain ⟨k, rfl⟩ := Int.eq_ofNat_of_zero_le (a := q) (by omega)
    exact core d k (by omega) (by omega) w
end Go.Proofs.Ytjlbmelpoaffpaa.UnwindStays
