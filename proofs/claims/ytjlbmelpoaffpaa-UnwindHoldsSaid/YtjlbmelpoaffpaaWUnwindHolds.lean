/- The walk of besomlaw15.UnwindHolds: it returns true, and writes nothing that was there. (Printed by a program of mine.) -/
import Derived.Test.YtjlbmelpoaffpaaUnwH
import Derived.Test.YtjlbmelpoaffpaaArgs4
import Derived.Deep.CutBlock
import Derived.StillTailTactics
namespace Go.Proofs.Ytjlbmelpoaffpaa.UnwindHolds
open Go.RowKit Unw
set_option linter.unusedSimpArgs false
set_option linter.unusedVariables false

set_option maxRecDepth 100000 in
theorem early (A : Option Addr) (n c : Nat) (w : World) (hm : n ≤ 9223372036854775807) (h : 120 < n) :
    Calls Try.prog 6 #[.slice A n c] w fun e w' => e = .returned (.bool true) ∧ Below w.heap.size w w' := by
  go_enter Try.func6, Try.ntmps6
  go_wp2_with fail
  refine (alive _).mono ?_
  rintro e w1 ⟨rfl, hb1⟩
  dsimp only
  go_wp2_with fail
  go_ret
  exact ⟨rfl, hb1⟩

/-- What holds at a round's head. -/
def Rel (w : World) (b q : Nat) (wr : World) : Prop :=
  ∃ (ms : List Mk) (al : List Al) (n k : Nat) (A : Option Addr) (c : Nat) (A' : Option Addr) (c' : Nat), HI ms al ∧ okT ms ∧ n ≤ q + 1 ∧ k ≤ q ∧ Var w wr b ms al n k A c A' c'

set_option maxRecDepth 1000000 in
set_option maxHeartbeats 8000000 in
theorem core (A0 : Option Addr) (n0 c0 : Nat) (l : List (Int × Int × Int)) (w : World) (hn : n0 ≤ 120) (hx : l.length = n0) (R : Reads w w.heap.size 3 A0 n0 c0 (tripCells l)) :
    Calls Try.prog 6 #[.slice A0 n0 c0] w fun e w' => e = .returned (.bool true) ∧ Below w.heap.size w w' := by
  have HX := Lib.hid hx
  have HR := Lib.hid R
  clear hx R
  go_enter Try.func6, Try.ntmps6
  go_wp2_with fail
  refine (alive _).mono ?_
  rintro e w0 ⟨rfl, hb0⟩
  dsimp only
  go_wp2_with fail
  refine (enter_any _ _ [] [] (St.empty w0)).mono ?_
  intro e wa hg
  obtain ⟨Aa, ca, Aa', ca', rfl, ho, hb⟩ := hg.take (n := 1) (k := 0) rfl rfl
  have V := Lib.hid (Var.start (fresh_call hb0 hb) ho hb0.size)
  clear hg ho hb hb0
  dsimp only [id]
  go_wp2_with fail
  generalize wa.alloc (.cells #[.slice Aa 1 ca, .slice Aa' 0 ca'] 26) = was at *
  generalize wa.heap.size = b at *
  have H0 := Lib.hid (show Rel w b 0 was from ⟨[⟨false, false, 0⟩], [], _, _, _, _, _, _, (trivial : HI _ []), by simp [okT], Nat.le_refl _, Nat.le_refl _, V.out⟩)
  clear V
  go_loopw [4] (fun i wr => ∃ q : Nat, q ≤ n0 ∧ i = .int .i64 q ∧ Rel w b q wr) (fun i _ => n0 - (intOf i).toNat)
  case atStart => exact ⟨0, Nat.zero_le _, rfl, H0.out⟩
  case round =>
    clear H0
    obtain ⟨q, hq, rfl, ms, al, n, k, A, c, A', c', hhi, hok, hnq, hkq, hv⟩ := hrel
    have V := Lib.hid hv
    have HI0 := Lib.hid hhi
    have HOK := Lib.hid hok
    have HLN := Lib.hid hv.own.1
    have HLK := Lib.hid hv.own.2.1
    obtain ⟨l1, l2, l3, l4⟩ := hv.cells
    clear hv hhi hok
    by_cases hlt : q < n0
    · obtain ⟨x, hxq⟩ : ∃ x, l[q]? = some x := ⟨_, List.getElem?_eq_getElem (by have := HX.out; omega)⟩
      obtain ⟨sb, off, rfl, hsb, hs0, hs1, hs2⟩ := (HR.out.below V.out.below).trip hxq
      obtain ⟨x0, x1, x2⟩ := x
      dsimp only at hs0 hs1 hs2
      have hq0 : (0 : Int) ≤ (q : Int) := by omega
      have hqn : (q : Int) < (n0 : Int) := by omega
      have hn120 : n ≤ 130 := by omega
      have hk120 : k ≤ 130 := by omega
      clear hxq hs2
      have HW := Lib.hid (next_ways ms al)
      obtain ⟨nx, hnx⟩ : ∃ nx, next ms al = nx := ⟨_, rfl⟩
      have HNX := Lib.hid hnx
      clear hnx
      go_wp2_with fail
      refine (next_any _ _ ms al (V.out.own.st (by omega) (by omega))).mono ?_
      rw [HNX.out]
      rintro e w2 ⟨rfl, hb⟩
      have V2 := Lib.hid (V.out.call hb)
      have hsb2 := hb.cell (p := ⟨sb, off + q * 3, none⟩) (Nat.lt_of_lt_of_le hsb V.out.below.size)
      have hsb3 := hb.cell (p := ⟨sb, off + q * 3 + 1, none⟩) (Nat.lt_of_lt_of_le hsb V.out.below.size)
      rw [hs0] at hsb2
      rw [hs1] at hsb3
      clear V hb hs0 hs1 l1 l2 l3 l4
      have V := Lib.hid V2.out
      clear V2
      obtain ⟨l1, l2, l3, l4⟩ := V.out.cells
      dsimp only
      by_cases hend : nx = 3 ∨ nx = 4
      · have hms : ms = [] := next_end (by rw [HNX.out]; exact hend)
        subst hms
        obtain rfl : n = 0 := HLN.out.symm
        rcases hend with rfl | rfl
        all_goals
          go_wp2_with fail
          go_ret
          exact ⟨rfl, V.out.below⟩
      · have h3 : (nx == 3) = false := by simp; omega
        have h4 : (nx == 4) = false := by simp; omega
        have hway : nx = 0 ∨ nx = 1 ∨ nx = 2 := by have := HW.out; rw [HNX.out] at this; omega
        have HWAY := Lib.hid hway
        clear hway hend
        go_upto_block 2 with (fail)
        go_cut [] from 25 to 223 (fun wx => Rel w b (q + 1) wx)
        case first =>
          rcases HWAY.out with rfl | rfl | rfl
          · obtain ⟨m, r, rfl, hu, hlv⟩ := next_zero HNX.out
            have HU := Lib.hid hu
            clear hu
            by_cases e1 : x0 = 1
            · subst e1
              by_cases h20 : n < 20
              · as_aux_lemma =>
                  go_wp2_with fail
                  refine (enter_any _ _  _ _ (V.out.own.st (by omega) (by omega)) ).mono ?_
                  intro e w11 hg
                  obtain ⟨A11, c11, A11', c11', rfl, ho, hb⟩ := hg.take (n := (n + 1)) (k := k) (by rw [List.length_cons, HLN.out]) HLK.out
                  clear l1 l2 l3 l4
                  obtain ⟨k1, k2, k3, k4, hv⟩ := V.out.stored ho hb
                  clear V
                  have V := Lib.hid hv
                  obtain ⟨l1, l2, l3, l4⟩ := hv.cells
                  clear hg ho hb hv
                  dsimp only [id]
                  go_wp2_with fail
                  generalize (w11.setCell ⟨b, 0, none⟩ (.slice A11 (n + 1) c11)).setCell ⟨b, 1, none⟩ (.slice A11' k c11') = w11s at *
                  clear k1 k2 k3 k4
                  go_meet
                  exact ⟨_, _, _, _, _, _, _, _, HI_push _ HI0.out, okT_cons (by simp) (by simp) HOK.out, by omega, by omega, V.out⟩
              · as_aux_lemma =>
                  go_wp2_with fail
                  go_meet
                  exact ⟨_, _, _, _, _, _, _, _, HI0.out, HOK.out, by omega, by omega, V.out⟩
            have b1 : (x0 == 1) = false := by simpa using e1
            by_cases e2 : x0 = 2
            · as_aux_lemma =>
                subst e2
                go_wp2_with fail
                refine (defer_any _ _  _ _ (V.out.own.st (by omega) (by omega)) HOK.out).mono ?_
                intro e w12 hg
                obtain ⟨A12, c12, A12', c12', rfl, ho, hb⟩ := hg.take (n := n) (k := k) ((defer_len _).trans HLN.out) HLK.out
                clear l1 l2 l3 l4
                obtain ⟨k1, k2, k3, k4, hv⟩ := V.out.stored ho hb
                clear V
                have V := Lib.hid hv
                obtain ⟨l1, l2, l3, l4⟩ := hv.cells
                clear hg ho hb hv
                dsimp only
                go_wp2_with fail
                generalize (w12.setCell ⟨b, 0, none⟩ (.slice A12 n c12)).setCell ⟨b, 1, none⟩ (.slice A12' k c12') = w12s at *
                clear k1 k2 k3 k4
                go_meet
                exact ⟨_, _, _, _, _, _, _, _, HI_defer HI0.out, okT_defer HOK.out, by omega, by omega, V.out⟩
            have b2 : (x0 == 2) = false := by simpa using e2
            by_cases e5 : x0 = 5
            · as_aux_lemma =>
                subst e5
                go_wp2_with fail
                go_still_tail 6, (by kernel_rfl)
                change wpList _ _ _ _ _ w2.drew
                have V2 := Lib.hid (V.out.call ((Below.refl _ _).drew))
                clear V
                have V := Lib.hid V2.out
                clear V2 l1 l2 l3 l4 hsb2 hsb3
                obtain ⟨l1, l2, l3, l4⟩ := V.out.cells
                generalize w2.drew = w2d at *
                go_wp2_with fail
                refine (panic_any _ _ x1 0 _ _ (V.out.own.st (by omega) (by omega)) ).mono ?_
                intro e w13 hg
                obtain ⟨A13, c13, A13', c13', rfl, ho, hb⟩ := hg.take (n := n) (k := (k + 1)) HLN.out (by rw [List.length_cons, HLK.out])
                clear l1 l2 l3 l4
                obtain ⟨k1, k2, k3, k4, hv⟩ := V.out.stored ho hb
                clear V
                have V := Lib.hid hv
                obtain ⟨l1, l2, l3, l4⟩ := hv.cells
                clear hg ho hb hv
                dsimp only [id]
                go_wp2_with fail
                generalize (w13.setCell ⟨b, 0, none⟩ (.slice A13 n c13)).setCell ⟨b, 1, none⟩ (.slice A13' (k + 1) c13') = w13s at *
                clear k1 k2 k3 k4
                go_meet
                exact ⟨_, _, _, _, _, _, _, _, HI_new _ rfl HU.out HI0.out, HOK.out, by omega, by omega, V.out⟩
            have b5 : (x0 == 5) = false := by simpa using e5
            by_cases e6 : x0 = 6
            · as_aux_lemma =>
                subst e6
                go_wp2_with fail
                refine (exit_any _ _  _ _ (V.out.own.st (by omega) (by omega)) ).mono ?_
                intro e w14 hg
                obtain ⟨A14, c14, A14', c14', rfl, ho, hb⟩ := hg.take (n := n) (k := (k + 1)) HLN.out (by rw [List.length_cons, HLK.out])
                clear l1 l2 l3 l4
                obtain ⟨k1, k2, k3, k4, hv⟩ := V.out.stored ho hb
                clear V
                have V := Lib.hid hv
                obtain ⟨l1, l2, l3, l4⟩ := hv.cells
                clear hg ho hb hv
                dsimp only [id]
                go_wp2_with fail
                generalize (w14.setCell ⟨b, 0, none⟩ (.slice A14 n c14)).setCell ⟨b, 1, none⟩ (.slice A14' (k + 1) c14') = w14s at *
                clear k1 k2 k3 k4
                go_meet
                exact ⟨_, _, _, _, _, _, _, _, HI_new _ rfl HU.out HI0.out, HOK.out, by omega, by omega, V.out⟩
            have b6 : (x0 == 6) = false := by simpa using e6
            by_cases e7 : x0 = 7
            · subst e7
              obtain ⟨d, rfl⟩ : ∃ d, n = d + 1 := ⟨r.length, HLN.out.symm.trans (List.length_cons ..)⟩
              have HRL := Lib.hid (show r.length = d by have := HLN.out; rw [List.length_cons] at this; omega)
              obtain ⟨gm, rfl, _, _, _⟩ := V.out.headM
              obtain ⟨lv, df, th⟩ := m
              dsimp only at *
              rcases al with _ | ⟨⟨code, ptr, run, xx, rc⟩, qq⟩
              · as_aux_lemma =>
                  obtain rfl : k = 0 := HLK.out.symm
                  go_wp2_with fail
                  refine (recover_no _ _ _ _ (V.out.own.st (by omega) (by omega)) (by rfl)).mono ?_
                  intro e w60 hg
                  obtain ⟨A60, c60, A60', c60', rfl, ho, hb⟩ := hg.take (n := d + 1) (k := 0) HLN.out HLK.out
                  clear l1 l2 l3 l4
                  have V2 := Lib.hid ((V.out.call hb).alloc (.cells #[.slice A60 (d + 1) c60, .slice A60' (0) c60'] 26))
                  obtain ⟨l1, l2, l3, l4⟩ := V2.out.cells
                  obtain ⟨f0, f1, f2⟩ := V2.out.atM
                  rw [HRL.out] at f0 f1 f2
                  have VE := Lib.hid (((V.out.call hb).put (ho.mono V.out.below.size)).alloc (.cells #[.slice A60 (d + 1) c60, .slice A60' (0) c60'] 26))
                  obtain ⟨k1, k2, k3, k4⟩ := (V.out.call hb).cells
                  have klt := (V.out.call hb).blk.lt
                  clear V V2 hg ho hb
                  simp only [recF]
                  go_wp2_with fail
                  go_meet
                  exact ⟨_, _, d + 1, 0, _, _, _, _, HI0.out, HOK.out, by omega, by omega, VE.out⟩
              obtain ⟨ee, rfl⟩ : ∃ ee, k = ee + 1 := ⟨qq.length, HLK.out.symm.trans (List.length_cons ..)⟩
              have HQL := Lib.hid (show qq.length = ee by have := HLK.out; rw [List.length_cons] at this; omega)
              obtain ⟨ga, rfl, _, _, _, _, _⟩ := V.out.headA
              dsimp only at *
              have hz1 : decide ((0 : Int) < (d : Int) + 1) = true := decide_eq_true (by omega)
              have hz2 : decide ((0 : Int) < (ee : Int) + 1) = true := decide_eq_true (by omega)
              by_cases hcr : run = (d : Int) + 1
              · subst hcr
                have hrr : (((d : Int) + 1) == ((d : Int) + 1)) = true := by simp
                cases df
                · as_aux_lemma =>
                    go_wp2_with fail
                    refine (recover_no _ _ _ _ (V.out.own.st (by omega) (by omega)) (by simp [canRec])).mono ?_
                    intro e w60 hg
                    obtain ⟨A60, c60, A60', c60', rfl, ho, hb⟩ := hg.take (n := d + 1) (k := ee + 1) HLN.out HLK.out
                    clear l1 l2 l3 l4
                    have V2 := Lib.hid ((V.out.call hb).alloc (.cells #[.slice A60 (d + 1) c60, .slice A60' (ee + 1) c60'] 26))
                    obtain ⟨l1, l2, l3, l4⟩ := V2.out.cells
                    obtain ⟨f0, f1, f2⟩ := V2.out.atM
                    rw [HRL.out] at f0 f1 f2
                    obtain ⟨d0, d1, d2, d3, d4⟩ := V2.out.atA
                    rw [HQL.out] at d0 d1 d2 d3 d4
                    have VE := Lib.hid (((V.out.call hb).put (ho.mono V.out.below.size)).alloc (.cells #[.slice A60 (d + 1) c60, .slice A60' (ee + 1) c60'] 26))
                    obtain ⟨k1, k2, k3, k4⟩ := (V.out.call hb).cells
                    have klt := (V.out.call hb).blk.lt
                    clear V V2 hg ho hb
                    simp only [recF]
                    go_wp2_with fail
                    go_meet
                    exact ⟨_, _, d + 1, ee + 1, _, _, _, _, HI0.out, HOK.out, by omega, by omega, VE.out⟩
                · cases xx
                  · cases rc
                    · as_aux_lemma =>
                        go_wp2_with fail
                        refine (recover_yes _ _ _ _ _ (V.out.own.st (by omega) (by omega)) (by simp [canRec, HRL.out])).mono ?_
                        intro e w60 hg
                        obtain ⟨A60, c60, A60', c60', rfl, ho, hb⟩ := hg.take (n := d + 1) (k := ee + 1) HLN.out HLK.out
                        clear l1 l2 l3 l4
                        have V2 := Lib.hid ((V.out.call hb).alloc (.cells #[.slice A60 (d + 1) c60, .slice A60' (ee + 1) c60'] 26))
                        obtain ⟨l1, l2, l3, l4⟩ := V2.out.cells
                        obtain ⟨f0, f1, f2⟩ := V2.out.atM
                        rw [HRL.out] at f0 f1 f2
                        obtain ⟨d0, d1, d2, d3, d4⟩ := V2.out.atA
                        rw [HQL.out] at d0 d1 d2 d3 d4
                        have VE := Lib.hid (((V.out.call hb).put (ho.mono V.out.below.size)).alloc (.cells #[.slice A60 (d + 1) c60, .slice A60' (ee + 1) c60'] 26))
                        obtain ⟨k1, k2, k3, k4⟩ := (V.out.call hb).cells
                        have klt := (V.out.call hb).blk.lt
                        clear V V2 hg ho hb
                        simp only [recF]
                        go_wp2_with fail
                        go_meet
                        exact ⟨_, _, d + 1, ee + 1, _, _, _, _, (show HI _ (⟨code, ptr, (d : Int) + 1, false, true⟩ :: qq) from HI0.out), HOK.out, by omega, by omega, VE.out⟩
                    · as_aux_lemma =>
                        go_wp2_with fail
                        refine (recover_no _ _ _ _ (V.out.own.st (by omega) (by omega)) (by simp [canRec])).mono ?_
                        intro e w60 hg
                        obtain ⟨A60, c60, A60', c60', rfl, ho, hb⟩ := hg.take (n := d + 1) (k := ee + 1) HLN.out HLK.out
                        clear l1 l2 l3 l4
                        have V2 := Lib.hid ((V.out.call hb).alloc (.cells #[.slice A60 (d + 1) c60, .slice A60' (ee + 1) c60'] 26))
                        obtain ⟨l1, l2, l3, l4⟩ := V2.out.cells
                        obtain ⟨f0, f1, f2⟩ := V2.out.atM
                        rw [HRL.out] at f0 f1 f2
                        obtain ⟨d0, d1, d2, d3, d4⟩ := V2.out.atA
                        rw [HQL.out] at d0 d1 d2 d3 d4
                        have VE := Lib.hid (((V.out.call hb).put (ho.mono V.out.below.size)).alloc (.cells #[.slice A60 (d + 1) c60, .slice A60' (ee + 1) c60'] 26))
                        obtain ⟨k1, k2, k3, k4⟩ := (V.out.call hb).cells
                        have klt := (V.out.call hb).blk.lt
                        clear V V2 hg ho hb
                        simp only [recF]
                        go_wp2_with fail
                        go_meet
                        exact ⟨_, _, d + 1, ee + 1, _, _, _, _, HI0.out, HOK.out, by omega, by omega, VE.out⟩
                  · as_aux_lemma =>
                      go_wp2_with fail
                      refine (recover_no _ _ _ _ (V.out.own.st (by omega) (by omega)) (by simp [canRec])).mono ?_
                      intro e w60 hg
                      obtain ⟨A60, c60, A60', c60', rfl, ho, hb⟩ := hg.take (n := d + 1) (k := ee + 1) HLN.out HLK.out
                      clear l1 l2 l3 l4
                      have V2 := Lib.hid ((V.out.call hb).alloc (.cells #[.slice A60 (d + 1) c60, .slice A60' (ee + 1) c60'] 26))
                      obtain ⟨l1, l2, l3, l4⟩ := V2.out.cells
                      obtain ⟨f0, f1, f2⟩ := V2.out.atM
                      rw [HRL.out] at f0 f1 f2
                      obtain ⟨d0, d1, d2, d3, d4⟩ := V2.out.atA
                      rw [HQL.out] at d0 d1 d2 d3 d4
                      have VE := Lib.hid (((V.out.call hb).put (ho.mono V.out.below.size)).alloc (.cells #[.slice A60 (d + 1) c60, .slice A60' (ee + 1) c60'] 26))
                      obtain ⟨k1, k2, k3, k4⟩ := (V.out.call hb).cells
                      have klt := (V.out.call hb).blk.lt
                      clear V V2 hg ho hb
                      simp only [recF]
                      go_wp2_with fail
                      go_meet
                      exact ⟨_, _, d + 1, ee + 1, _, _, _, _, HI0.out, HOK.out, by omega, by omega, VE.out⟩
              have hrr : (run == ((d : Int) + 1)) = false := by simpa using hcr
              have hcn : canRec (⟨lv, df, th⟩ :: r) (⟨code, ptr, run, xx, rc⟩ :: qq) = false := by simp [canRec, HRL.out, hcr]
              have HCN := Lib.hid hcn
              clear hcn
              cases df
              · as_aux_lemma =>
                  go_wp2_with fail
                  refine (recover_no _ _ _ _ (V.out.own.st (by omega) (by omega)) HCN.out).mono ?_
                  intro e w60 hg
                  obtain ⟨A60, c60, A60', c60', rfl, ho, hb⟩ := hg.take (n := d + 1) (k := ee + 1) HLN.out HLK.out
                  clear l1 l2 l3 l4
                  have V2 := Lib.hid ((V.out.call hb).alloc (.cells #[.slice A60 (d + 1) c60, .slice A60' (ee + 1) c60'] 26))
                  obtain ⟨l1, l2, l3, l4⟩ := V2.out.cells
                  obtain ⟨f0, f1, f2⟩ := V2.out.atM
                  rw [HRL.out] at f0 f1 f2
                  obtain ⟨d0, d1, d2, d3, d4⟩ := V2.out.atA
                  rw [HQL.out] at d0 d1 d2 d3 d4
                  have VE := Lib.hid (((V.out.call hb).put (ho.mono V.out.below.size)).alloc (.cells #[.slice A60 (d + 1) c60, .slice A60' (ee + 1) c60'] 26))
                  obtain ⟨k1, k2, k3, k4⟩ := (V.out.call hb).cells
                  have klt := (V.out.call hb).blk.lt
                  clear V V2 hg ho hb
                  simp only [recF]
                  go_wp2_with fail
                  go_meet
                  exact ⟨_, _, d + 1, ee + 1, _, _, _, _, HI0.out, HOK.out, by omega, by omega, VE.out⟩
              · as_aux_lemma =>
                  go_wp2_with fail
                  refine (recover_no _ _ _ _ (V.out.own.st (by omega) (by omega)) HCN.out).mono ?_
                  intro e w60 hg
                  obtain ⟨A60, c60, A60', c60', rfl, ho, hb⟩ := hg.take (n := d + 1) (k := ee + 1) HLN.out HLK.out
                  clear l1 l2 l3 l4
                  have V2 := Lib.hid ((V.out.call hb).alloc (.cells #[.slice A60 (d + 1) c60, .slice A60' (ee + 1) c60'] 26))
                  obtain ⟨l1, l2, l3, l4⟩ := V2.out.cells
                  obtain ⟨f0, f1, f2⟩ := V2.out.atM
                  rw [HRL.out] at f0 f1 f2
                  obtain ⟨d0, d1, d2, d3, d4⟩ := V2.out.atA
                  rw [HQL.out] at d0 d1 d2 d3 d4
                  have VE := Lib.hid (((V.out.call hb).put (ho.mono V.out.below.size)).alloc (.cells #[.slice A60 (d + 1) c60, .slice A60' (ee + 1) c60'] 26))
                  obtain ⟨k1, k2, k3, k4⟩ := (V.out.call hb).cells
                  have klt := (V.out.call hb).blk.lt
                  clear V V2 hg ho hb
                  simp only [recF]
                  go_wp2_with fail
                  go_meet
                  exact ⟨_, _, d + 1, ee + 1, _, _, _, _, HI0.out, HOK.out, by omega, by omega, VE.out⟩
            have b7 : (x0 == 7) = false := by simpa using e7
            go_wp2_with fail
            refine (leave_any _ _  _ _ (V.out.own.st (by omega) (by omega)) ).mono ?_
            intro e w15 hg
            obtain ⟨A15, c15, A15', c15', rfl, ho, hb⟩ := hg.take (n := n) (k := k) ((leave_len _).trans HLN.out) HLK.out
            clear l1 l2 l3 l4
            obtain ⟨k1, k2, k3, k4, hv⟩ := V.out.stored ho hb
            clear V
            have V := Lib.hid hv
            obtain ⟨l1, l2, l3, l4⟩ := hv.cells
            clear hg ho hb hv
            dsimp only [id]
            go_wp2_with fail
            generalize (w15.setCell ⟨b, 0, none⟩ (.slice A15 n c15)).setCell ⟨b, 1, none⟩ (.slice A15' k c15') = w15s at *
            clear k1 k2 k3 k4
            go_meet
            exact ⟨_, _, _, _, _, _, _, _, HI_leave HI0.out, okT_leave HOK.out, by omega, by omega, V.out⟩
          · as_aux_lemma =>
              go_wp2_with fail
              refine (thunk_any _ _  _ _ (V.out.own.st (by omega) (by omega)) (by have := HLN.out; omega) HOK.out).mono ?_
              intro e w31 hg
              obtain ⟨A31, c31, A31', c31', rfl, ho, hb⟩ := hg.take (n := (thunkM ms al).length) (k := k) rfl ((thunkA_len _ _).trans HLK.out)
              clear l1 l2 l3 l4
              obtain ⟨k1, k2, k3, k4, hv⟩ := V.out.stored ho hb
              clear V
              have V := Lib.hid hv
              obtain ⟨l1, l2, l3, l4⟩ := hv.cells
              clear hg ho hb hv
              dsimp only [id]
              go_wp2_with fail
              generalize (w31.setCell ⟨b, 0, none⟩ (.slice A31 (thunkM ms al).length c31)).setCell ⟨b, 1, none⟩ (.slice A31' k c31') = w31s at *
              clear k1 k2 k3 k4
              go_meet
              exact ⟨_, _, _, _, _, _, _, _, HI_thunk HNX.out HI0.out, okT_thunk HOK.out, by have := thunkM_len ms al; have := HLN.out; omega, by omega, V.out⟩
          · as_aux_lemma =>
              generalize hpa : (popA ms al).length = pk at *
              have HPK := Lib.hid hpa
              clear hpa
              go_wp2_with fail
              refine (pop_any _ _  _ _ (V.out.own.st (by omega) (by omega)) ).mono ?_
              intro e w41 hg
              obtain ⟨A41, c41, A41', c41', rfl, ho, hb⟩ := hg.take (n := (popM ms al).length) (k := pk) rfl HPK.out
              clear l1 l2 l3 l4
              obtain ⟨k1, k2, k3, k4, hv⟩ := V.out.stored ho hb
              clear V
              have V := Lib.hid hv
              obtain ⟨l1, l2, l3, l4⟩ := hv.cells
              clear hg ho hb hv
              dsimp only [id]
              go_wp2_with fail
              generalize (w41.setCell ⟨b, 0, none⟩ (.slice A41 (popM ms al).length c41)).setCell ⟨b, 1, none⟩ (.slice A41' pk c41') = w41s at *
              clear k1 k2 k3 k4
              go_meet
              exact ⟨_, _, _, _, _, _, _, _, HI_pop HI0.out, okT_pop HOK.out, by have := popM_len ms al; have := HLN.out; omega, by have := popA_len ms al; have := HLK.out; have := HPK.out; omega, V.out⟩
        case rest => as_aux_lemma =>
          obtain ⟨ms, al, n, k, A, c, A', c', hhi, hok, hnq, hkq, hv⟩ := hcut
          have V := Lib.hid hv
          have HI0 := Lib.hid hhi
          have HOK := Lib.hid hok
          have HLN := Lib.hid hv.own.1
          have HLK := Lib.hid hv.own.2.1
          obtain ⟨l1, l2, l3, l4⟩ := hv.cells
          have HREL := Lib.hid (show Rel w b (q + 1) wc from ⟨ms, al, n, k, A, c, A', c', hhi, hok, hnq, hkq, hv⟩)
          have hn120 : n ≤ 130 := by omega
          have hk120 : k ≤ 130 := by omega
          clear hv hhi hok
          go_wp2_with fail
          go_loop [12, 13] (fun t i => ∃ p s : List Al, al = p ++ s ∧ t = .int .i64 (lastR s) ∧ i = .int .i64 s.length) (fun _ i => k - (intOf i).toNat)
          case atStart => exact ⟨al, [], by simp, rfl, rfl⟩
          case round =>
            obtain ⟨p, s, hps, rfl, rfl⟩ := hrel
            have HPS := Lib.hid hps
            have hlen : p.length + s.length = k := by rw [← HLK.out, hps, List.length_append]
            clear hps
            rcases List.eq_nil_or_concat p with rfl | ⟨p', y, rfl⟩
            · have hsk : s.length = k := by simpa using hlen
              rw [hsk]
              generalize lastR s = L at *
              clear hlen
              go_wp2_with fail
              exact ⟨⟨q + 1, by omega, by go_num, HREL.out⟩, by simp [intOf]; omega⟩
            · obtain ⟨yc, yp, run, yx, yr⟩ := y
              have hsp := HI0.out
              rw [HPS.out, List.concat_eq_append, List.append_assoc] at hsp
              have hsp2 := HI_split (p := p') (b := ⟨yc, yp, run, yx, yr⟩) (s := s) hsp
              have hpl : p'.length + 1 + s.length = k := by simpa using hlen
              have hAl : al = p' ++ ⟨yc, yp, run, yx, yr⟩ :: s := by rw [HPS.out, List.concat_eq_append, List.append_assoc]; rfl
              have HAL := Lib.hid hAl
              have HSP := Lib.hid hsp2
              obtain ⟨ga, rfl⟩ : ∃ g, A' = some ⟨g, 0, none⟩ := by
                rcases al with _ | ⟨z, zs⟩
                · simp at hAl
                · obtain ⟨g, e, _⟩ := V.out.headA; exact ⟨g, e⟩
              obtain ⟨m2, m3⟩ := V.out.midA HAL.out
              dsimp only at m2 m3
              have hi0 : (0 : Int) ≤ (s.length : Int) := by omega
              have hi1 : (s.length : Int) < (k : Int) := by omega
              clear hsp hsp2 hAl hlen
              rcases HSP.out with ⟨h0, hx⟩ | ⟨h0, h1, hdf, hL0, hL1⟩
              · dsimp only at h0 hx
                subst h0
                have HXX := Lib.hid hx
                have HLR := Lib.hid (show lastR (⟨yc, yp, 0, yx, yr⟩ :: s) = lastR s by simp [lastR])
                clear hx
                by_cases hp' : p' = []
                · subst hp'
                  have hkk : decide ((s.length : Int) < (k : Int) - 1) = false := decide_eq_false (by simp at hpl; omega)
                  go_wp2_with fail
                  refine ⟨⟨[], _, HAL.out, ?_, ?_⟩, by simp [intOf]; omega⟩
                  · rw [HLR.out]
                  · rw [List.length_cons]; go_num
                · have hex := HXX.out hp'
                  subst hex
                  have hkk : decide ((s.length : Int) < (k : Int) - 1) = true := by
                    have : 0 < p'.length := List.length_pos_iff.2 hp'
                    exact decide_eq_true (by omega)
                  go_wp2_with fail
                  refine ⟨⟨p', _, HAL.out, ?_, ?_⟩, by simp [intOf]; omega⟩
                  · rw [HLR.out]
                  · rw [List.length_cons]; go_num
              · dsimp only at h0 h1 hdf hL1
                obtain ⟨u, hu⟩ := Int.eq_ofNat_of_zero_le (a := run - 1) (by omega)
                obtain rfl : run = (u : Int) + 1 := by omega
                obtain ⟨gm, rfl, hcu⟩ := V.out.dfCell hdf
                have HLR := Lib.hid (show lastR (⟨yc, yp, (u : Int) + 1, yx, yr⟩ :: s) = (u : Int) + 1 by simp only [lastR]; rw [if_neg (by omega)])
                have hz : (((u : Int) + 1) == 0) = false := by simp; omega
                have hle := HLN.out
                have hun : (u : Int) + 1 ≤ (n : Int) := by rw [← hle]; exact h1
                have hu0 : (0 : Int) ≤ (u : Int) := by omega
                have hu1 : (u : Int) < (n : Int) := by omega
                generalize lastR s = L at *
                have hc1 : decide ((u : Int) + 1 ≤ L) = false := decide_eq_false (by omega)
                have hc2 : decide ((n : Int) < (u : Int) + 1) = false := decide_eq_false (by omega)
                clear hle hdf hu
                go_wp2_with fail
                refine ⟨⟨p', _, HAL.out, ?_, ?_⟩, by simp [intOf]; omega⟩
                · rw [HLR.out]
                · rw [List.length_cons]; go_num
    · obtain rfl : q = n0 := by omega
      go_wp2_with fail
      go_ret
      exact ⟨rfl, V.out.below⟩

theorem walk (A : Option Addr) (n c : Nat) (l : List (Int × Int × Int)) (w : World) (hl : l.length = n) (_wl : ∀ q ∈ l, (Lit.int .i64 q.1).wf = true ∧ (Lit.int .i64 q.2.1).wf = true ∧ (Lit.int .i64 q.2.2).wf = true) (R : Reads w w.heap.size 3 A n c (tripCells l)) :
    Calls Try.prog 6 #[.slice A n c] w fun e w' => e = .returned (.bool true) ∧ Below w.heap.size w w' := by
  by_cases h : 120 < n
  · exact early A n c w (by have := R.1; have := R.2.1; unfold maxLen at this; omega) h
  · exact core A n c l w (by omega) hl R
end Go.Proofs.Ytjlbmelpoaffpaa.UnwindHolds
