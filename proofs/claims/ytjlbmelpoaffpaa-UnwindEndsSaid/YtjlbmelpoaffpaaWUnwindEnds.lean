/- The walk of besomlaw15.UnwindEnds: it returns true, and writes nothing that was there. (Printed by a program of mine.) -/
import Derived.Test.YtjlbmelpoaffpaaUnwE
import Derived.Test.YtjlbmelpoaffpaaArgs
namespace Go.Proofs.Ytjlbmelpoaffpaa.UnwindEnds
open Go.RowKit Unw
set_option linter.unusedSimpArgs false
set_option linter.unusedVariables false

theorem tmod4 (x : Int) : -3 ≤ x.tmod 4 ∧ x.tmod 4 ≤ 3 := by
  rcases Int.le_total 0 x with h | h
  · rw [Int.tmod_eq_emod_of_nonneg h]; omega
  · have : x.tmod 4 = -((-x).tmod 4) := by rw [Int.neg_tmod, Int.neg_neg]
    rw [this, Int.tmod_eq_emod_of_nonneg (by omega)]; omega
theorem tail_ok {ms : List Mk} {m : Mk} {r : List Mk} (h : Base (m :: r)) (h0 : 0 < m.th) : Base ({ m with th := m.th - 1 } :: r) := base_dec h h0

set_option maxRecDepth 100000 in
theorem early (A : Option Addr) (n c : Nat) (code : Int) (ex saved : Bool) (w : World) (hm : n ≤ 9223372036854775807) (h : 10 < n ∨ n = 0) :
    Calls Try.prog 7 #[.slice A n c, .int .i64 code, .bool ex, .bool saved] w fun e w' => e = .returned (.bool true) ∧ Below w.heap.size w w' := by
  by_cases h1 : 10 < n
  · clear h
    go_enter Try.func7, Try.ntmps7
    go_wp2_with fail
    refine (alive _).mono ?_
    rintro e w1 ⟨rfl, hb1⟩
    dsimp only
    go_wp2_with fail
    go_ret
    exact ⟨rfl, hb1⟩
  · obtain rfl : n = 0 := by omega
    clear h
    go_enter Try.func7, Try.ntmps7
    go_wp2_with fail
    refine (alive _).mono ?_
    rintro e w1 ⟨rfl, hb1⟩
    dsimp only
    go_wp2_with fail
    go_ret
    exact ⟨rfl, hb1⟩

set_option maxRecDepth 1000000 in
set_option maxHeartbeats 8000000 in
theorem core (A0 : Option Addr) (n0 c0 : Nat) (xs : List Int) (code : Int) (ex saved : Bool) (w : World) (hn : n0 ≤ 10) (hn1 : 0 < n0) (hx : xs.length = n0) (R : Reads w w.heap.size 1 A0 n0 c0 (xs.map (.int .i64))) :
    Calls Try.prog 7 #[.slice A0 n0 c0, .int .i64 code, .bool ex, .bool saved] w fun e w' => e = .returned (.bool true) ∧ Below w.heap.size w w' := by
  have HX := Lib.hid hx
  have HR := Lib.hid R
  clear hx R
  have hd0 : ((n0 : Int) == 0) = false := by simp; omega
  go_enter Try.func7, Try.ntmps7
  go_wp2_with fail
  refine (alive _).mono ?_
  rintro e w0 ⟨rfl, hb0⟩
  dsimp only
  go_wp2_with fail
  have H0 := Lib.hid (Var.start hb0 (OwnedN.nil w0.heap.size w0) hb0.size)
  clear hb0
  generalize w0.alloc (.cells #[.slice none 0 0, .slice none 0 0] 26) = w1 at *
  generalize w0.heap.size = b at *
  go_loopw [10, 11] (fun t i wr => ∃ (j : Nat) (ms : List Mk) (A : Option Addr) (c : Nat) (A' : Option Addr) (c' : Nat), j ≤ n0 ∧ i = .int .i64 j ∧ t = .int .i64 (sumT ms) ∧ Base ms ∧ Var w wr b ms [] j 0 A c A' c') (fun _ i _ => n0 - (intOf i).toNat)
  case atStart => exact ⟨0, [], _, _, _, _, Nat.zero_le _, rfl, rfl, (fun _ h => by cases h), H0.out⟩
  case round =>
    clear H0
    obtain ⟨j, ms, A, c, A', c', hj, rfl, rfl, hbase, hv⟩ := hrel
    have V := Lib.hid hv
    have HB := Lib.hid hbase
    have hlen := Lib.hid hv.own.1
    obtain ⟨l1, l2, l3, l4⟩ := hv.cells
    have hs := sumT_le hbase
    rw [hlen.out] at hs
    obtain ⟨hs1, hs2⟩ := hs
    clear hv hbase
    by_cases hlt : j < n0
    · go_wp2_with fail
      refine (enter_any _ _  _ _ (V.out.own.st (by omega) (by omega)) ).mono ?_
      intro e w11 hg
      obtain ⟨A11, c11, A11', c11', rfl, ho, hb⟩ := hg.take (n := (j + 1)) (k := 0) (by rw [List.length_cons, hlen.out]) rfl
      clear l1 l2 l3 l4
      obtain ⟨k1, k2, k3, k4, hv⟩ := V.out.stored ho hb
      clear V
      have V := Lib.hid hv
      obtain ⟨l1, l2, l3, l4⟩ := hv.cells
      clear hg ho hb hv
      dsimp only [id]
      go_wp2_with fail
      generalize (w11.setCell ⟨b, 0, none⟩ (.slice A11 (j + 1) c11)).setCell ⟨b, 1, none⟩ (.slice A11' 0 c11') = w11s at *
      clear k1 k2 k3 k4
      clear l1 l2 l3 l4
      have H1 := Lib.hid V.out
      clear V
      obtain ⟨x, hxj⟩ : ∃ x, xs[j]? = some x := ⟨_, List.getElem?_eq_getElem (by have := HX.out; omega)⟩
      have HXJ := Lib.hid hxj
      have hq1 := tmod4 x
      obtain ⟨hq1, hq2⟩ := hq1
      clear hxj
      go_loopw [10, 12] (fun t i wr => ∃ (k : Nat) (A : Option Addr) (c : Nat) (A' : Option Addr) (c' : Nat), (k : Int) ≤ (x.tmod 4 + 4) % 4 ∧ i = .int .i64 k ∧ t = .int .i64 (sumT ms + k) ∧ Var w wr b (⟨false, false, k⟩ :: ms) [] (j + 1) 0 A c A' c') (fun _ i _ => 4 - (intOf i).toNat)
      case atStart => exact ⟨0, _, _, _, _, by omega, rfl, by simp, H1.out⟩
      case round =>
        clear H1
        obtain ⟨k, A, c, A', c', hk, rfl, rfl, hv⟩ := hrel
        have V := Lib.hid hv
        obtain ⟨l1, l2, l3, l4⟩ := hv.cells
        obtain ⟨sb, off, rfl, hsb, hsc⟩ := (HR.out.below hv.below).at_ (j := j) (u := .int .i64 x) (by rw [List.getElem?_map, HXJ.out]; rfl)
        have hok := Lib.hid (show okT (⟨false, false, k⟩ :: ms) from fun m hm => by
          rcases List.mem_cons.1 hm with rfl | hm
          · exact ⟨by simp, by show (k : Int) ≤ 16; omega⟩
          · exact base_ok HB.out m hm)
        have hj0 : (0 : Int) ≤ (j : Int) := by omega
        have hj1 : (j : Int) < (n0 : Int) := by omega
        clear hv
        by_cases hlk : (k : Int) < (x.tmod 4 + 4) % 4
        · have HD := Lib.hid (show deferB (⟨false, false, k⟩ :: ms) = true from decide_eq_true (show (k : Int) < 16 by omega))
          have HM := Lib.hid (show deferM (⟨false, false, k⟩ :: ms) = ⟨false, false, ((k + 1 : Nat) : Int)⟩ :: ms by simp only [deferM]; rw [if_pos (show (k : Int) < 16 by omega)]; simp)
          go_wp2_with fail
          refine (defer_any _ _  _ _ (V.out.own.st (by omega) (by omega)) hok.out).mono ?_
          intro e w21 hg
          obtain ⟨A21, c21, A21', c21', rfl, ho, hb⟩ := (hg.as (ms' := (⟨false, false, ((k + 1 : Nat) : Int)⟩ :: ms)) (al' := []) HM.out rfl).take (n := (j + 1)) (k := 0) (by rw [List.length_cons, hlen.out]) rfl
          clear l1 l2 l3 l4
          obtain ⟨k1, k2, k3, k4, hv⟩ := V.out.stored ho hb
          clear V
          have V := Lib.hid hv
          obtain ⟨l1, l2, l3, l4⟩ := hv.cells
          clear hg ho hb hv
          simp only [HD.out]
          go_wp2_with fail
          generalize (w21.setCell ⟨b, 0, none⟩ (.slice A21 (j + 1) c21)).setCell ⟨b, 1, none⟩ (.slice A21' 0 c21') = w21s at *
          clear k1 k2 k3 k4
          refine ⟨⟨k + 1, _, _, _, _, by omega, by go_num, ?_, V.out⟩, by simp [intOf]; omega⟩
          congr 1
          omega
        · obtain hke : (k : Int) = (x.tmod 4 + 4) % 4 := by omega
          have HKE := Lib.hid hke
          have hb2 : Base (⟨false, false, k⟩ :: ms) := base_cons.2 ⟨⟨rfl, by simp, by show (k : Int) ≤ 3; omega⟩, HB.out⟩
          clear hke
          go_wp2_with fail
          exact ⟨⟨j + 1, _, _, _, _, _, by omega, by go_num, by simp [sumT]; omega, hb2, V.out⟩, by simp [intOf]; omega⟩
    · obtain rfl : j = n0 := by omega
      clear hj hlt
      have hml : (mu ms) ≤ 110 := by have := mu_le HB.out; rw [hlen.out] at this; omega
      have HMU := Lib.hid hml
      clear hml
      have hcc : (code != code) = false := by simp
      generalize hTT : sumT ms = TT at *
      have HTT := Lib.hid hTT
      clear hTT
      cases ex
      · go_wp2_with fail
        refine (panic_any _ _ code 0 _ _ (V.out.own.st (by omega) (by omega)) ).mono ?_
        intro e w31 hg
        obtain ⟨A31, c31, A31', c31', rfl, ho, hb⟩ := hg.take (n := j) (k := 1) hlen.out rfl
        clear l1 l2 l3 l4
        obtain ⟨k1, k2, k3, k4, hv⟩ := V.out.stored ho hb
        clear V
        have V := Lib.hid hv
        obtain ⟨l1, l2, l3, l4⟩ := hv.cells
        clear hg ho hb hv
        dsimp only [id]
        go_wp2_with fail
        generalize (w31.setCell ⟨b, 0, none⟩ (.slice A31 j c31)).setCell ⟨b, 1, none⟩ (.slice A31' 1 c31') = w31s at *
        clear k1 k2 k3 k4
        clear l1 l2 l3 l4
        have H1 := Lib.hid (show Var w _ b ms [alarmE false code 0 false] j 1 _ _ _ _ from V.out)
        clear V
        go_loopw [13, 14, 15] (fun d r i wr => ∃ (q : Nat) (ms : List Mk) (al : List Al) (n k : Nat) (A : Option Addr) (c : Nat) (A' : Option Addr) (c' : Nat) (done : Int) (rec : Bool), i = .int .i64 q ∧ r = .bool rec ∧ d = .int .i64 done ∧ At false saved code ms al rec ∧ 0 ≤ done ∧ done + sumT ms = TT ∧ mu ms + q ≤ 110 ∧ Var w wr b ms al n k A c A' c') (fun _ _ i _ => 400 - (intOf i).toNat)
        case atStart => exact ⟨0, _, _, _, _, _, _, _, _, 0, _, rfl, rfl, rfl, .a HB.out, Int.le_refl _, by rw [HTT.out]; omega, by simpa using HMU.out, H1.out⟩
        case round =>
          clear H1
          obtain ⟨q, ms, al, n, k, A, c, A', c', done, rec, rfl, rfl, rfl, hat, hd1, hd2, hmu, hv⟩ := hrel
          have hq : q ≤ 110 := by have := mu_nonneg hat.ok; omega
          have hn100 : n ≤ 110 := by have h1 := len_mu hat.ok; rw [hv.own.1] at h1; omega
          have hk1 : k ≤ 1 := by have h1 := hat.al; rw [hv.own.2.1] at h1; exact h1
          have hd3 : done ≤ TT := by have := sumT_ok hat.ok; omega
          have HD2 := Lib.hid hd2
          have HMQ := Lib.hid hmu
          have HAT := Lib.hid hat
          have V := Lib.hid hv
          have HLN := Lib.hid hv.own.1
          have HLK := Lib.hid hv.own.2.1
          obtain ⟨l1, l2, l3, l4⟩ := hv.cells
          clear hat hv hd2 hmu
          rcases next_ways ms al with hw | hw | hw | hw | hw
          all_goals have HW := Lib.hid hw
          all_goals clear hw
          · obtain ⟨hat2, hs2, hm2, hl2⟩ := HAT.out.leaves HW.out
            have HS2 := Lib.hid hs2
            clear hs2
            go_wp2_with fail
            refine (next_any _ _ ms al (V.out.own.st (by omega) (by omega))).mono ?_
            rw [HW.out]
            rintro e w41 ⟨rfl, hb⟩
            clear l1 l2 l3 l4
            have V2 := Lib.hid (V.out.call hb)
            clear V
            have V := Lib.hid V2.out
            clear V2 hb
            obtain ⟨l1, l2, l3, l4⟩ := V.out.cells
            dsimp only
            go_wp2_with fail
            refine (leave_any _ _  _ _ (V.out.own.st (by omega) (by omega)) ).mono ?_
            intro e w42 hg
            obtain ⟨A42, c42, A42', c42', rfl, ho, hb⟩ := hg.take (n := n) (k := k) (hl2.trans HLN.out) HLK.out
            clear l1 l2 l3 l4
            obtain ⟨k1, k2, k3, k4, hv⟩ := V.out.stored ho hb
            clear V
            have V := Lib.hid hv
            obtain ⟨l1, l2, l3, l4⟩ := hv.cells
            clear hg ho hb hv
            dsimp only [id]
            go_wp2_with fail
            generalize (w42.setCell ⟨b, 0, none⟩ (.slice A42 n c42)).setCell ⟨b, 1, none⟩ (.slice A42' k c42') = w42s at *
            clear k1 k2 k3 k4
            exact ⟨⟨q + 1, _, _, _, _, _, _, _, _, done, rec, by go_num, rfl, rfl, hat2, hd1, by rw [HS2.out]; exact HD2.out, by have := HMQ.out; omega, V.out⟩, by simp [intOf]; omega⟩
          · obtain ⟨m, r, rfl, hm0, hm3, hmb, htM, hw⟩ := HAT.out.thunk HW.out
            have HTM := Lib.hid htM
            have HOK := Lib.hid HAT.out.ok
            have HMB := Lib.hid hmb
            clear htM hmb
            rw [List.length_cons] at HLN
            go_wp2_with fail
            refine (next_any _ _ (m :: r) al (V.out.own.st (by omega) (by omega))).mono ?_
            rw [HW.out]
            rintro e w51 ⟨rfl, hb⟩
            clear l1 l2 l3 l4
            have V2 := Lib.hid (V.out.call hb)
            clear V
            have V := Lib.hid V2.out
            clear V2 hb
            obtain ⟨l1, l2, l3, l4⟩ := V.out.cells
            dsimp only
            go_wp2_with fail
            have hSUM := sumT_th m r
            have hMUT := mu_th m r
            have HSUM := Lib.hid hSUM
            have HMUT := Lib.hid hMUT
            clear hSUM hMUT
            rcases hw with ⟨rfl, rfl, htA⟩ | ⟨rfl, rfl, rfl, he, htA⟩
            · have HTA := Lib.hid htA
              clear htA
              obtain rfl : k = 1 := by have := HLK.out; simpa using this.symm
              cases saved
              · have HATN := Lib.hid (show At false false code (⟨false, true, 0⟩ :: { m with th := m.th - 1 } :: r) [alarmE false code ((r.length : Int) + 1 + 1) false] false from .b (m := ⟨false, true, 0⟩) ⟨rfl, rfl⟩ (base_dec HMB.out hm0))
                refine (thunk_any _ _  _ _ (V.out.own.st (by omega) (by omega)) (by rw [List.length_cons]; have := HLN.out; omega) HOK.out).mono ?_
                intro e w52 hg
                obtain ⟨A52, c52, A52', c52', rfl, ho, hb⟩ := (hg.as (ms' := (⟨false, true, 0⟩ :: { m with th := m.th - 1 } :: r)) (al' := [alarmE false code ((r.length : Int) + 1 + 1) false]) HTM.out HTA.out).take (n := (n + 1)) (k := 1) (by rw [List.length_cons, List.length_cons, HLN.out]) rfl
                clear l1 l2 l3 l4
                obtain ⟨k1, k2, k3, k4, hv⟩ := V.out.stored ho hb
                clear V
                have V := Lib.hid hv
                obtain ⟨l1, l2, l3, l4⟩ := hv.cells
                clear hg ho hb hv
                dsimp only [id]
                go_wp2_with fail
                generalize (w52.setCell ⟨b, 0, none⟩ (.slice A52 (n + 1) c52)).setCell ⟨b, 1, none⟩ (.slice A52' 1 c52') = w52s at *
                clear k1 k2 k3 k4
                exact ⟨⟨q + 1, _, _, _, _, _, _, _, _, done + 1, false, by go_num, rfl, rfl, HATN.out, by omega, by rw [HSUM.out]; have := HD2.out; omega, by rw [HMUT.out]; have := HMQ.out; omega, V.out⟩, by simp [intOf]; omega⟩
              · have HATN := Lib.hid (show At false true code (⟨false, true, 0⟩ :: { m with th := m.th - 1 } :: r) [alarmE false code ((r.length : Int) + 1 + 1) true] true from .b (m := ⟨false, true, 0⟩) ⟨rfl, rfl⟩ (base_dec HMB.out hm0))
                refine (thunk_any _ _  _ _ (V.out.own.st (by omega) (by omega)) (by rw [List.length_cons]; have := HLN.out; omega) HOK.out).mono ?_
                intro e w53 hg
                obtain ⟨A53, c53, A53', c53', rfl, ho, hb⟩ := (hg.as (ms' := (⟨false, true, 0⟩ :: { m with th := m.th - 1 } :: r)) (al' := [alarmE false code ((r.length : Int) + 1 + 1) false]) HTM.out HTA.out).take (n := (n + 1)) (k := 1) (by rw [List.length_cons, List.length_cons, HLN.out]) rfl
                clear l1 l2 l3 l4
                obtain ⟨k1, k2, k3, k4, hv⟩ := V.out.stored ho hb
                clear V
                have V := Lib.hid hv
                obtain ⟨l1, l2, l3, l4⟩ := hv.cells
                clear hg ho hb hv
                dsimp only [id]
                go_wp2_with fail
                generalize (w53.setCell ⟨b, 0, none⟩ (.slice A53 (n + 1) c53)).setCell ⟨b, 1, none⟩ (.slice A53' 1 c53') = w53s at *
                clear k1 k2 k3 k4
                refine (recover_yes _ _ _ _ _ (V.out.own.st (by omega) (by omega)) (by simp [canRec, alarmE])).mono ?_
                intro e w60 hg
                obtain ⟨A60, c60, A60', c60', rfl, ho, hb⟩ := hg.take (n := n + 1) (k := 1) (by rw [List.length_cons, List.length_cons, HLN.out]) rfl
                clear l1 l2 l3 l4
                have VE := Lib.hid (((V.out.call hb).put (ho.mono V.out.below.size)).alloc (.cells #[.slice A60 (n + 1) c60, .slice A60' 1 c60'] 26))
                obtain ⟨k1, k2, k3, k4⟩ := (V.out.call hb).cells
                have klt := (V.out.call hb).blk.lt
                clear V hg ho hb
                simp only [recF, alarmE, if_true, if_false, Bool.false_eq_true]
                go_wp2_with fail
                exact ⟨⟨q + 1, _, _, _, _, _, _, _, _, done + 1, true, by go_num, rfl, rfl, HATN.out, by omega, by rw [HSUM.out]; have := HD2.out; omega, by rw [HMUT.out]; have := HMQ.out; omega, VE.out⟩, by simp [intOf]; omega⟩
            · have HTA := Lib.hid htA
              clear htA he
              obtain rfl : k = 0 := by have := HLK.out; simpa using this.symm
              refine (thunk_any _ _  _ _ (V.out.own.st (by omega) (by omega)) (by rw [List.length_cons]; have := HLN.out; omega) HOK.out).mono ?_
              intro e w54 hg
              obtain ⟨A54, c54, A54', c54', rfl, ho, hb⟩ := (hg.as (ms' := (⟨false, true, 0⟩ :: { m with th := m.th - 1 } :: r)) (al' := []) HTM.out HTA.out).take (n := (n + 1)) (k := 0) (by rw [List.length_cons, List.length_cons, HLN.out]) rfl
              clear l1 l2 l3 l4
              obtain ⟨k1, k2, k3, k4, hv⟩ := V.out.stored ho hb
              clear V
              have V := Lib.hid hv
              obtain ⟨l1, l2, l3, l4⟩ := hv.cells
              clear hg ho hb hv
              dsimp only [id]
              go_wp2_with fail
              generalize (w54.setCell ⟨b, 0, none⟩ (.slice A54 (n + 1) c54)).setCell ⟨b, 1, none⟩ (.slice A54' 0 c54') = w54s at *
              clear k1 k2 k3 k4
              have HATN := Lib.hid (show At false true code (⟨false, true, 0⟩ :: { m with th := m.th - 1 } :: r) [] true from .d (m := ⟨false, true, 0⟩) ⟨rfl, rfl⟩ (base_dec HMB.out hm0) rfl rfl)
              refine (recover_no _ _ _ _ (V.out.own.st (by omega) (by omega)) rfl).mono ?_
              intro e w60 hg
              obtain ⟨A60, c60, A60', c60', rfl, ho, hb⟩ := hg.take (n := n + 1) (k := 0) (by rw [List.length_cons, List.length_cons, HLN.out]) rfl
              clear l1 l2 l3 l4
              have VE := Lib.hid (((V.out.call hb).put (ho.mono V.out.below.size)).alloc (.cells #[.slice A60 (n + 1) c60, .slice A60' 0 c60'] 26))
              obtain ⟨k1, k2, k3, k4⟩ := (V.out.call hb).cells
              have klt := (V.out.call hb).blk.lt
              clear V hg ho hb
              simp only [recF, alarmE, if_true, if_false, Bool.false_eq_true]
              go_wp2_with fail
              exact ⟨⟨q + 1, _, _, _, _, _, _, _, _, done + 1, true, by go_num, rfl, rfl, HATN.out, by omega, by rw [HSUM.out]; have := HD2.out; omega, by rw [HMUT.out]; have := HMQ.out; omega, VE.out⟩, by simp [intOf]; omega⟩
          · obtain ⟨hat2, hs2, hm2, hl2⟩ := HAT.out.pop HW.out
            have HS2 := Lib.hid hs2
            clear hs2
            generalize hpm : popM ms al = pm at *
            generalize hpa : popA ms al = pa at *
            have HPM := Lib.hid hpm
            have HPA := Lib.hid hpa
            clear hpm hpa
            go_wp2_with fail
            refine (next_any _ _ ms al (V.out.own.st (by omega) (by omega))).mono ?_
            rw [HW.out]
            rintro e w71 ⟨rfl, hb⟩
            clear l1 l2 l3 l4
            have V2 := Lib.hid (V.out.call hb)
            clear V
            have V := Lib.hid V2.out
            clear V2 hb
            obtain ⟨l1, l2, l3, l4⟩ := V.out.cells
            dsimp only
            go_wp2_with fail
            refine (pop_any _ _  _ _ (V.out.own.st (by omega) (by omega)) ).mono ?_
            intro e w72 hg
            obtain ⟨A72, c72, A72', c72', rfl, ho, hb⟩ := (hg.as (ms' := pm) (al' := pa) HPM.out HPA.out).take (n := pm.length) (k := pa.length) rfl rfl
            clear l1 l2 l3 l4
            obtain ⟨k1, k2, k3, k4, hv⟩ := V.out.stored ho hb
            clear V
            have V := Lib.hid hv
            obtain ⟨l1, l2, l3, l4⟩ := hv.cells
            clear hg ho hb hv
            dsimp only [id]
            go_wp2_with fail
            generalize (w72.setCell ⟨b, 0, none⟩ (.slice A72 pm.length c72)).setCell ⟨b, 1, none⟩ (.slice A72' pa.length c72') = w72s at *
            clear k1 k2 k3 k4
            exact ⟨⟨q + 1, _, _, _, _, _, _, _, _, done, rec, by go_num, rfl, rfl, hat2, hd1, by rw [HS2.out]; exact HD2.out, by have := HMQ.out; omega, V.out⟩, by simp [intOf]; omega⟩
          · obtain ⟨hs0, hor⟩ := HAT.out.ended HW.out
            obtain rfl : done = TT := by have := HD2.out; omega
            have hdd : (done == done) = true := by simp
            obtain rfl : rec = true := by simpa using hor
            clear hs0 hor
            go_wp2_with fail
            refine (next_any _ _ ms al (V.out.own.st (by omega) (by omega))).mono ?_
            rw [HW.out]
            rintro e w81 ⟨rfl, hb⟩
            clear l1 l2 l3 l4
            have V2 := Lib.hid (V.out.call hb)
            clear V
            have V := Lib.hid V2.out
            clear V2 hb
            obtain ⟨l1, l2, l3, l4⟩ := V.out.cells
            dsimp only
            go_wp2_with fail
            go_ret
            exact ⟨rfl, V.out.below⟩
          · obtain ⟨hs0, _, rfl, rfl⟩ := HAT.out.fatal HW.out
            obtain rfl : done = TT := by have := HD2.out; omega
            have hdd : (done == done) = true := by simp
            obtain rfl : k = 1 := by have := HLK.out; simpa using this.symm
            obtain ⟨g, rfl, _, _, _, _, _⟩ := V.out.headA
            clear hs0
            go_wp2_with fail
            refine (next_any _ _ ms _ (V.out.own.st (by omega) (by omega))).mono ?_
            rw [HW.out]
            rintro e w91 ⟨rfl, hb⟩
            clear l1 l2 l3 l4
            have V2 := Lib.hid (V.out.call hb)
            clear V
            have V := Lib.hid V2.out
            clear V2 hb
            obtain ⟨l1, l2, l3, l4⟩ := V.out.cells
            dsimp only
            obtain ⟨d0, d1, d2, d3, d4⟩ := V.out.atA
            simp only [List.length_nil, List.length_cons, List.length_replicate, Nat.zero_mul, Nat.zero_add, Nat.reduceMul, Nat.reduceAdd] at d0 d1 d2 d3 d4
            go_wp2_with fail
            go_ret
            exact ⟨rfl, V.out.below⟩
      · go_wp2_with fail
        refine (exit_any _ _  _ _ (V.out.own.st (by omega) (by omega)) ).mono ?_
        intro e w31 hg
        obtain ⟨A31, c31, A31', c31', rfl, ho, hb⟩ := hg.take (n := j) (k := 1) hlen.out rfl
        clear l1 l2 l3 l4
        obtain ⟨k1, k2, k3, k4, hv⟩ := V.out.stored ho hb
        clear V
        have V := Lib.hid hv
        obtain ⟨l1, l2, l3, l4⟩ := hv.cells
        clear hg ho hb hv
        dsimp only [id]
        go_wp2_with fail
        generalize (w31.setCell ⟨b, 0, none⟩ (.slice A31 j c31)).setCell ⟨b, 1, none⟩ (.slice A31' 1 c31') = w31s at *
        clear k1 k2 k3 k4
        clear l1 l2 l3 l4
        have H1 := Lib.hid (show Var w _ b ms [alarmE true code 0 false] j 1 _ _ _ _ from V.out)
        clear V
        go_loopw [13, 14, 15] (fun d r i wr => ∃ (q : Nat) (ms : List Mk) (al : List Al) (n k : Nat) (A : Option Addr) (c : Nat) (A' : Option Addr) (c' : Nat) (done : Int) (rec : Bool), i = .int .i64 q ∧ r = .bool rec ∧ d = .int .i64 done ∧ At true saved code ms al rec ∧ 0 ≤ done ∧ done + sumT ms = TT ∧ mu ms + q ≤ 110 ∧ Var w wr b ms al n k A c A' c') (fun _ _ i _ => 400 - (intOf i).toNat)
        case atStart => exact ⟨0, _, _, _, _, _, _, _, _, 0, _, rfl, rfl, rfl, .a HB.out, Int.le_refl _, by rw [HTT.out]; omega, by simpa using HMU.out, H1.out⟩
        case round =>
          clear H1
          obtain ⟨q, ms, al, n, k, A, c, A', c', done, rec, rfl, rfl, rfl, hat, hd1, hd2, hmu, hv⟩ := hrel
          have hq : q ≤ 110 := by have := mu_nonneg hat.ok; omega
          have hn100 : n ≤ 110 := by have h1 := len_mu hat.ok; rw [hv.own.1] at h1; omega
          have hk1 : k ≤ 1 := by have h1 := hat.al; rw [hv.own.2.1] at h1; exact h1
          have hd3 : done ≤ TT := by have := sumT_ok hat.ok; omega
          have HD2 := Lib.hid hd2
          have HMQ := Lib.hid hmu
          have HAT := Lib.hid hat
          have V := Lib.hid hv
          have HLN := Lib.hid hv.own.1
          have HLK := Lib.hid hv.own.2.1
          obtain ⟨l1, l2, l3, l4⟩ := hv.cells
          clear hat hv hd2 hmu
          rcases next_ways ms al with hw | hw | hw | hw | hw
          all_goals have HW := Lib.hid hw
          all_goals clear hw
          · obtain ⟨hat2, hs2, hm2, hl2⟩ := HAT.out.leaves HW.out
            have HS2 := Lib.hid hs2
            clear hs2
            go_wp2_with fail
            refine (next_any _ _ ms al (V.out.own.st (by omega) (by omega))).mono ?_
            rw [HW.out]
            rintro e w41 ⟨rfl, hb⟩
            clear l1 l2 l3 l4
            have V2 := Lib.hid (V.out.call hb)
            clear V
            have V := Lib.hid V2.out
            clear V2 hb
            obtain ⟨l1, l2, l3, l4⟩ := V.out.cells
            dsimp only
            go_wp2_with fail
            refine (leave_any _ _  _ _ (V.out.own.st (by omega) (by omega)) ).mono ?_
            intro e w42 hg
            obtain ⟨A42, c42, A42', c42', rfl, ho, hb⟩ := hg.take (n := n) (k := k) (hl2.trans HLN.out) HLK.out
            clear l1 l2 l3 l4
            obtain ⟨k1, k2, k3, k4, hv⟩ := V.out.stored ho hb
            clear V
            have V := Lib.hid hv
            obtain ⟨l1, l2, l3, l4⟩ := hv.cells
            clear hg ho hb hv
            dsimp only [id]
            go_wp2_with fail
            generalize (w42.setCell ⟨b, 0, none⟩ (.slice A42 n c42)).setCell ⟨b, 1, none⟩ (.slice A42' k c42') = w42s at *
            clear k1 k2 k3 k4
            exact ⟨⟨q + 1, _, _, _, _, _, _, _, _, done, rec, by go_num, rfl, rfl, hat2, hd1, by rw [HS2.out]; exact HD2.out, by have := HMQ.out; omega, V.out⟩, by simp [intOf]; omega⟩
          · obtain ⟨m, r, rfl, hm0, hm3, hmb, htM, hw⟩ := HAT.out.thunk HW.out
            have HTM := Lib.hid htM
            have HOK := Lib.hid HAT.out.ok
            have HMB := Lib.hid hmb
            clear htM hmb
            rw [List.length_cons] at HLN
            go_wp2_with fail
            refine (next_any _ _ (m :: r) al (V.out.own.st (by omega) (by omega))).mono ?_
            rw [HW.out]
            rintro e w51 ⟨rfl, hb⟩
            clear l1 l2 l3 l4
            have V2 := Lib.hid (V.out.call hb)
            clear V
            have V := Lib.hid V2.out
            clear V2 hb
            obtain ⟨l1, l2, l3, l4⟩ := V.out.cells
            dsimp only
            go_wp2_with fail
            have hSUM := sumT_th m r
            have hMUT := mu_th m r
            have HSUM := Lib.hid hSUM
            have HMUT := Lib.hid hMUT
            clear hSUM hMUT
            rcases hw with ⟨rfl, rfl, htA⟩ | ⟨rfl, rfl, rfl, he, htA⟩
            · have HTA := Lib.hid htA
              clear htA
              obtain rfl : k = 1 := by have := HLK.out; simpa using this.symm
              cases saved
              · have HATN := Lib.hid (show At true false code (⟨false, true, 0⟩ :: { m with th := m.th - 1 } :: r) [alarmE true code ((r.length : Int) + 1 + 1) false] false from .b (m := ⟨false, true, 0⟩) ⟨rfl, rfl⟩ (base_dec HMB.out hm0))
                refine (thunk_any _ _  _ _ (V.out.own.st (by omega) (by omega)) (by rw [List.length_cons]; have := HLN.out; omega) HOK.out).mono ?_
                intro e w52 hg
                obtain ⟨A52, c52, A52', c52', rfl, ho, hb⟩ := (hg.as (ms' := (⟨false, true, 0⟩ :: { m with th := m.th - 1 } :: r)) (al' := [alarmE true code ((r.length : Int) + 1 + 1) false]) HTM.out HTA.out).take (n := (n + 1)) (k := 1) (by rw [List.length_cons, List.length_cons, HLN.out]) rfl
                clear l1 l2 l3 l4
                obtain ⟨k1, k2, k3, k4, hv⟩ := V.out.stored ho hb
                clear V
                have V := Lib.hid hv
                obtain ⟨l1, l2, l3, l4⟩ := hv.cells
                clear hg ho hb hv
                dsimp only [id]
                go_wp2_with fail
                generalize (w52.setCell ⟨b, 0, none⟩ (.slice A52 (n + 1) c52)).setCell ⟨b, 1, none⟩ (.slice A52' 1 c52') = w52s at *
                clear k1 k2 k3 k4
                exact ⟨⟨q + 1, _, _, _, _, _, _, _, _, done + 1, false, by go_num, rfl, rfl, HATN.out, by omega, by rw [HSUM.out]; have := HD2.out; omega, by rw [HMUT.out]; have := HMQ.out; omega, V.out⟩, by simp [intOf]; omega⟩
              · have HATN := Lib.hid (show At true true code (⟨false, true, 0⟩ :: { m with th := m.th - 1 } :: r) [alarmE true code ((r.length : Int) + 1 + 1) false] false from .b (m := ⟨false, true, 0⟩) ⟨rfl, rfl⟩ (base_dec HMB.out hm0))
                refine (thunk_any _ _  _ _ (V.out.own.st (by omega) (by omega)) (by rw [List.length_cons]; have := HLN.out; omega) HOK.out).mono ?_
                intro e w53 hg
                obtain ⟨A53, c53, A53', c53', rfl, ho, hb⟩ := (hg.as (ms' := (⟨false, true, 0⟩ :: { m with th := m.th - 1 } :: r)) (al' := [alarmE true code ((r.length : Int) + 1 + 1) false]) HTM.out HTA.out).take (n := (n + 1)) (k := 1) (by rw [List.length_cons, List.length_cons, HLN.out]) rfl
                clear l1 l2 l3 l4
                obtain ⟨k1, k2, k3, k4, hv⟩ := V.out.stored ho hb
                clear V
                have V := Lib.hid hv
                obtain ⟨l1, l2, l3, l4⟩ := hv.cells
                clear hg ho hb hv
                dsimp only [id]
                go_wp2_with fail
                generalize (w53.setCell ⟨b, 0, none⟩ (.slice A53 (n + 1) c53)).setCell ⟨b, 1, none⟩ (.slice A53' 1 c53') = w53s at *
                clear k1 k2 k3 k4
                refine (recover_no _ _ _ _ (V.out.own.st (by omega) (by omega)) (by simp [canRec, alarmE])).mono ?_
                intro e w60 hg
                obtain ⟨A60, c60, A60', c60', rfl, ho, hb⟩ := hg.take (n := n + 1) (k := 1) (by rw [List.length_cons, List.length_cons, HLN.out]) rfl
                clear l1 l2 l3 l4
                have VE := Lib.hid (((V.out.call hb).put (ho.mono V.out.below.size)).alloc (.cells #[.slice A60 (n + 1) c60, .slice A60' 1 c60'] 26))
                obtain ⟨k1, k2, k3, k4⟩ := (V.out.call hb).cells
                have klt := (V.out.call hb).blk.lt
                clear V hg ho hb
                simp only [recF, alarmE, if_true, if_false, Bool.false_eq_true]
                go_wp2_with fail
                exact ⟨⟨q + 1, _, _, _, _, _, _, _, _, done + 1, false, by go_num, rfl, rfl, HATN.out, by omega, by rw [HSUM.out]; have := HD2.out; omega, by rw [HMUT.out]; have := HMQ.out; omega, VE.out⟩, by simp [intOf]; omega⟩
            · cases he
          · obtain ⟨hat2, hs2, hm2, hl2⟩ := HAT.out.pop HW.out
            have HS2 := Lib.hid hs2
            clear hs2
            generalize hpm : popM ms al = pm at *
            generalize hpa : popA ms al = pa at *
            have HPM := Lib.hid hpm
            have HPA := Lib.hid hpa
            clear hpm hpa
            go_wp2_with fail
            refine (next_any _ _ ms al (V.out.own.st (by omega) (by omega))).mono ?_
            rw [HW.out]
            rintro e w71 ⟨rfl, hb⟩
            clear l1 l2 l3 l4
            have V2 := Lib.hid (V.out.call hb)
            clear V
            have V := Lib.hid V2.out
            clear V2 hb
            obtain ⟨l1, l2, l3, l4⟩ := V.out.cells
            dsimp only
            go_wp2_with fail
            refine (pop_any _ _  _ _ (V.out.own.st (by omega) (by omega)) ).mono ?_
            intro e w72 hg
            obtain ⟨A72, c72, A72', c72', rfl, ho, hb⟩ := (hg.as (ms' := pm) (al' := pa) HPM.out HPA.out).take (n := pm.length) (k := pa.length) rfl rfl
            clear l1 l2 l3 l4
            obtain ⟨k1, k2, k3, k4, hv⟩ := V.out.stored ho hb
            clear V
            have V := Lib.hid hv
            obtain ⟨l1, l2, l3, l4⟩ := hv.cells
            clear hg ho hb hv
            dsimp only [id]
            go_wp2_with fail
            generalize (w72.setCell ⟨b, 0, none⟩ (.slice A72 pm.length c72)).setCell ⟨b, 1, none⟩ (.slice A72' pa.length c72') = w72s at *
            clear k1 k2 k3 k4
            exact ⟨⟨q + 1, _, _, _, _, _, _, _, _, done, rec, by go_num, rfl, rfl, hat2, hd1, by rw [HS2.out]; exact HD2.out, by have := HMQ.out; omega, V.out⟩, by simp [intOf]; omega⟩
          · obtain ⟨hs0, hor⟩ := HAT.out.ended HW.out
            obtain rfl : done = TT := by have := HD2.out; omega
            have hdd : (done == done) = true := by simp
            clear hs0 hor
            go_wp2_with fail
            refine (next_any _ _ ms al (V.out.own.st (by omega) (by omega))).mono ?_
            rw [HW.out]
            rintro e w81 ⟨rfl, hb⟩
            clear l1 l2 l3 l4
            have V2 := Lib.hid (V.out.call hb)
            clear V
            have V := Lib.hid V2.out
            clear V2 hb
            obtain ⟨l1, l2, l3, l4⟩ := V.out.cells
            dsimp only
            go_wp2_with fail
            go_ret
            exact ⟨rfl, V.out.below⟩
          · exact absurd (HAT.out.fatal HW.out).2.1 (by simp)

theorem walk (A : Option Addr) (n c : Nat) (xs : List Int) (code : Int) (ex saved : Bool) (w : World) (l : xs.length = n) (_wx : ∀ z ∈ xs, (Lit.int .i64 z).wf = true) (R : Reads w w.heap.size 1 A n c (xs.map (.int .i64))) (_wc : (Lit.int .i64 code).wf = true) :
    Calls Try.prog 7 #[.slice A n c, .int .i64 code, .bool ex, .bool saved] w fun e w' => e = .returned (.bool true) ∧ Below w.heap.size w w' := by
  by_cases h : 10 < n ∨ n = 0
  · exact early A n c code ex saved w (by have := R.1; have := R.2.1; unfold maxLen at this; omega) h
  · exact core A n c xs code ex saved w (by omega) (by omega) l R
end Go.Proofs.Ytjlbmelpoaffpaa.UnwindEnds
