/- The walk of besomlaw19.AskPlays: it returns true, and writes nothing that was there. (Printed by a program of mine.) -/
import Derived.Test.YtpdleckflcangaaAsk4
import Derived.Test.YtpdleckflcangaaArgs5
import Derived.Test.YtpdleckflcangaaExt
import Derived.Deep.CutBlock
import Derived.StillTailTactics
namespace Go.Proofs.Ytpdleckflcangaa.AskPlays
open Go.RowKit Go.Proofs.Ytpdleckflcangaa.Ask
set_option linter.unusedSimpArgs false
set_option linter.unusedVariables false

/-- The hand's variable and the variable that holds what it was before. -/
structure Two (w w' : World) (b b9 : Nat) (st : Int) (bl : Bool) (st0 : Int) (bl0 : Bool) : Prop where
  h : Blk w' b #[.int .i64 st, .bool bl] 32
  o : Blk w' b9 #[.int .i64 st0, .bool bl0] 32
  lt : b < b9
  le : w.heap.size ≤ b
  bel : Below w.heap.size w w'
namespace Two
variable {w w' w'' : World} {b b9 : Nat} {st st0 st1 : Int} {bl bl0 bl1 : Bool}
theorem call (h : Two w w' b b9 st bl st0 bl0) (hb : Below w'.heap.size w' w'') : Two w w'' b b9 st bl st0 bl0 := ⟨h.h.call hb, h.o.call hb, h.lt, h.le, fresh_call h.bel hb⟩
theorem set (h : Two w w' b b9 st bl st0 bl0) (st1 : Int) (bl1 : Bool) : Two w ((w'.setCell ⟨b, 0, none⟩ (.int .i64 st1)).setCell ⟨b, 1, none⟩ (.bool bl1)) b b9 st1 bl1 st0 bl0 :=
  ⟨hset h.h, (h.o.other (a := ⟨b, 0, none⟩) (Nat.ne_of_gt h.lt) _).other (a := ⟨b, 1, none⟩) (Nat.ne_of_gt h.lt) _, h.lt, h.le, bset (bset h.bel h.le _) h.le _⟩
theorem far (h : Two w w' b b9 st bl st0 bl0) {b11 : Nat} (hl : b9 < b11) (u v : Value) : Two w ((w'.setCell ⟨b11, 0, none⟩ u).setCell ⟨b11, 1, none⟩ v) b b9 st bl st0 bl0 :=
  ⟨(h.h.other (a := ⟨b11, 0, none⟩) (Nat.ne_of_lt (Nat.lt_trans h.lt hl)) _).other (a := ⟨b11, 1, none⟩) (Nat.ne_of_lt (Nat.lt_trans h.lt hl)) _, (h.o.other (a := ⟨b11, 0, none⟩) (Nat.ne_of_lt hl) _).other (a := ⟨b11, 1, none⟩) (Nat.ne_of_lt hl) _, h.lt, h.le, bset (bset h.bel (Nat.le_of_lt (Nat.lt_of_le_of_lt h.le (Nat.lt_trans h.lt hl))) _) (Nat.le_of_lt (Nat.lt_of_le_of_lt h.le (Nat.lt_trans h.lt hl))) _⟩
theorem alloc (h : Two w w' b b9 st bl st0 bl0) (ob : Obj) : Two w (w'.alloc ob) b b9 st bl st0 bl0 := ⟨h.h.alloc ob, h.o.alloc ob, h.lt, h.le, fresh_alloc h.bel ob⟩
theorem drew (h : Two w w' b b9 st bl st0 bl0) : Two w w'.drew b b9 st bl st0 bl0 := h.call (Below.refl _ _).drew
end Two

set_option maxRecDepth 100000 in
theorem early (st : Int) (bl : Bool) (A : Option Addr) (n c : Nat) (w : World) (h : 60 < n) :
    Calls Try.prog 5 #[.int .i64 st, .bool bl, .slice A n c] w fun e w' => e = .returned (.bool true) ∧ Below w.heap.size w w' := by
  have h1 : (60 : Int) < (n : Int) := by omega
  go_enter Try.func5, Try.ntmps5
  go_wp2_with fail
  refine (alive _).mono ?_
  rintro e w1 ⟨rfl, hb1⟩
  dsimp only
  go_wp2_with fail
  go_ret
  exact ⟨rfl, hb1⟩
theorem below_drew1 {w w' : World} (h : Below w.drew.heap.size w.drew w') : Below w.heap.size w w' := fresh_call (Below.refl _ _).drew h
theorem nx_no {st s : Int} (h : stepF st s = none) : nx st s = st := by unfold nx; rw [h]; rfl
theorem step0 {st : Int} (h : st ≠ 0) : stepF st 0 = none := by unfold stepF; simp [h]
theorem step1 {st : Int} (h : st ≠ 1) : stepF st 1 = none := by unfold stepF; simp [h]
theorem step2 {st : Int} (h : st ≠ 1) : stepF st 2 = none := by unfold stepF; simp [h]
theorem step3 {st : Int} (h : st ≠ 2) (h' : st ≠ 3) : stepF st 3 = none := by unfold stepF; simp [h, h']
theorem no_case {st : Int} {on : Bool} (f : ¬ (st = 1 ∧ on = true)) : (st == 1 && on) = false ∧ (on && (stepF st 1).isSome) = false ∧ (if on then nx st 1 else st) = st := by
  cases on
  · simp
  · have g : st ≠ 1 := fun g => f ⟨g, rfl⟩
    simp [g, step1 g, nx_no (step1 g)]
theorem reach_on (st : Int) (bl on : Bool) (w : World) (h : (Lit.int .i64 st).wf = true) :
    Calls Try.prog 20 #[.agg #[.int .i64 st, .bool bl], .bool on] w fun e w' => e = .returned (.tuple #[.agg #[.int .i64 (if on then nx st 1 else st), .bool bl], .bool (on && (stepF st 1).isSome)]) ∧ Below w.heap.size w w' := by
  cases on
  · exact reach_no st bl w
  · exact reach_yes st bl w h
set_option maxRecDepth 100000 in
set_option maxHeartbeats 4000000 in
theorem core (st : Int) (bl : Bool) (A : Option Addr) (n c : Nat) (l : List (Int × Bool)) (w : World) (hwf : (Lit.int .i64 st).wf = true) (hl : l.length = n) (hlw : ∀ q ∈ l, (Lit.int .i64 q.1).wf = true) (hR : Reads w w.heap.size 2 A n c (ibCells l)) (hn : n ≤ 60) :
    Calls Try.prog 5 #[.int .i64 st, .bool bl, .slice A n c] w fun e w' => e = .returned (.bool true) ∧ Below w.heap.size w w' := by
  have HR := Lib.hid hR
  have HL := Lib.hid hl
  have HWF := Lib.hid hwf
  clear hR hl hwf hlw
  have h1 : (n : Int) ≤ 60 := by omega
  go_enter Try.func5, Try.ntmps5
  go_wp2_with fail
  refine (alive _).mono ?_
  rintro e w0 ⟨rfl, hb0⟩
  dsimp only
  go_wp2_with fail
  have H0 := Lib.hid (show Blk (w0.alloc (.cells #[.int .i64 st, .bool bl] 32)) w0.heap.size #[.int .i64 st, .bool bl] 32 ∧ Below w.heap.size w (w0.alloc (.cells #[.int .i64 st, .bool bl] 32)) from ⟨Blk.new w0 #[.int .i64 st, .bool bl] 32, fresh_alloc hb0 _⟩)
  have hle : w.heap.size ≤ w0.heap.size := hb0.size
  clear hb0
  generalize w0.alloc (.cells #[.int .i64 st, .bool bl] 32) = w1 at *
  generalize w0.heap.size = b at *
  go_loopw [0, 1, 8] (fun s t i wr => ∃ (k : Nat) (s' : Int) (t' : Bool), k ≤ n ∧ s = .int .i64 s' ∧ t = .bool t' ∧ i = .int .i64 k ∧ (Lit.int .i64 s').wf = true ∧ Blk wr b #[.int .i64 s', .bool t'] 32 ∧ Below w.heap.size w wr) (fun _ _ i _ => n - (intOf i).toNat)
  case atStart => exact ⟨0, st, bl, Nat.zero_le _, rfl, rfl, rfl, HWF.out, H0.out.1, H0.out.2⟩
  case round =>
    clear H0 HWF
    obtain ⟨k, sx, tx, hk, rfl, rfl, rfl, hwf, hb, hw⟩ := hrel
    have HWF := Lib.hid hwf
    obtain ⟨l1, l2, l3, l4⟩ := hb.two
    by_cases hlt : k < n
    · obtain ⟨⟨kind, on⟩, hxk⟩ : ∃ x, l[k]? = some x := ⟨_, List.getElem?_eq_getElem (by have := HL.out; omega)⟩
      obtain ⟨sb, off, rfl, hsb, hs0, hs1⟩ := (HR.out.below hw).ib hxk
      dsimp only at hs0 hs1
      have hsz : sb < wr.heap.size := Nat.lt_of_lt_of_le hsb hw.size
      have hblt := hb.lt
      have hk0 : (0 : Int) ≤ (k : Int) := by omega
      have hkn : (k : Int) < (n : Int) := by omega
      have H := Lib.hid (show Two w (wr.alloc (.cells #[.int .i64 sx, .bool tx] 32)) b wr.heap.size sx tx sx tx from ⟨hb.alloc _, Blk.new wr #[.int .i64 sx, .bool tx] 32, hb.lt, hle, fresh_alloc hw _⟩)
      have HS0 := Lib.hid ((hw.cell (p := ⟨sb, off + k * 2, none⟩) hsb).symm.trans hs0)
      have HS1 := Lib.hid ((hw.cell (p := ⟨sb, off + k * 2 + 1, none⟩) hsb).symm.trans hs1)
      clear hxk hwf hb hw
      go_upto_block 2 with (fail)
      generalize wr.alloc (.cells #[.int .i64 sx, .bool tx] 32) = w2 at *
      generalize wr.heap.size = b9 at *
      go_cut [0, 1, 10, 11, 12, 13, 14, 15, 16] from 28 to 139 (fun s t _ _ _ _ _ _ _ wx => ∃ (s' : Int) (t' : Bool), s = .int .i64 s' ∧ t = .bool t' ∧ (Lit.int .i64 s').wf = true ∧ Two w wx b b9 s' t' sx tx)
      case first =>
        clear l1 l2 l3 l4 hs0 hs1 hsz hblt
        obtain ⟨l1, l2, l3, l4⟩ := H.out.h.two
        obtain ⟨o1, o2, o3, o4⟩ := H.out.o.two
        have hs0 := (H.out.bel.cell (p := ⟨sb, off + k * 2, none⟩) hsb).trans HS0.out
        have hs1 := (H.out.bel.cell (p := ⟨sb, off + k * 2 + 1, none⟩) hsb).trans HS1.out
        by_cases e1 : kind = 1
        · subst e1
          by_cases f : sx = 0
          · as_aux_lemma =>
              subst f
              go_wp2_with fail
              refine (ask_any 0 tx _ (by decide)).mono ?_
              rw [show nx 0 0 = 1 from rfl]
              rintro e w3 ⟨rfl, hb⟩
              have H3 := Lib.hid ((H.out.call hb).set (1) tx)
              obtain ⟨k1, k2, k3, k4⟩ := (H.out.call hb).h.two
              clear H hb l1 l2 l3 l4 o1 o2 o3 o4 hs0 hs1
              dsimp only
              go_wp2_with fail
              go_meet
              exact ⟨1, tx, rfl, rfl, by decide, H3.out⟩
          · as_aux_lemma =>
              have hf : (sx == 0) = false := by simpa using f
              have F := Lib.hid (nx_no (step0 f))
              clear f
              go_wp2_with fail
              refine (ask_any sx tx _ HWF.out).mono ?_
              rw [F.out]
              rintro e w3 ⟨rfl, hb⟩
              have H3 := Lib.hid ((H.out.call hb).set (sx) tx)
              obtain ⟨k1, k2, k3, k4⟩ := (H.out.call hb).h.two
              clear H hb l1 l2 l3 l4 o1 o2 o3 o4 hs0 hs1
              dsimp only
              go_wp2_with fail
              go_meet
              exact ⟨sx, tx, rfl, rfl, HWF.out, H3.out⟩
        have b1 : (kind == 1) = false := by simpa using e1
        by_cases e2 : kind = 2
        · subst e2
          have HRO := Lib.hid (fun w => reach_on sx tx on w HWF.out)
          obtain ⟨S, hS⟩ : ∃ S, (if on then nx sx 1 else sx) = S := ⟨_, rfl⟩
          obtain ⟨D, hD⟩ : ∃ D, (on && (stepF sx 1).isSome) = D := ⟨_, rfl⟩
          rw [hS, hD] at HRO
          have HS := Lib.hid hS
          have HDD := Lib.hid hD
          clear hS hD
          go_upto_region 17 with (fail)
          go_cut [10] from 28 to 139 (fun m wx => m = .bool (sx == 1 && on) ∧ wx = w2)
          case first =>
            by_cases f : sx = 1
            · as_aux_lemma =>
                subst f
                go_wp2_with fail
                go_meet
                exact ⟨rfl, rfl⟩
            · as_aux_lemma =>
                have hf : (sx == 1) = false := by simpa using f
                go_wp2_with fail
                go_meet
                exact ⟨by rw [hf]; rfl, rfl⟩
          case rest =>
            obtain ⟨rfl, rfl⟩ := hcut
            obtain ⟨M, hM⟩ : ∃ M, (sx == 1 && on) = M := ⟨_, rfl⟩
            rw [hM]
            have HM := Lib.hid hM
            clear hM
            go_upto_region 18 with (fail)
            go_cut [11, 12] from 28 to 139 (fun p d wx => ∃ b11, p = .pointer (some ⟨b11, 0, none⟩) ∧ d = .bool D ∧ b9 < b11 ∧ Blk wx b11 #[.int .i64 S, .bool tx] 32 ∧ Two w wx b b9 sx tx sx tx)
            case first => as_aux_lemma =>
              have HD := Lib.hid (show Two w wc.drew b b9 sx tx sx tx from H.out.drew)
              clear o1 o2 o3 o4
              obtain ⟨d1, d2, d3, d4⟩ := HD.out.h.two
              have ds0 := (HD.out.bel.cell (p := ⟨sb, off + k * 2, none⟩) hsb).trans HS0.out
              have ds1 := (HD.out.bel.cell (p := ⟨sb, off + k * 2 + 1, none⟩) hsb).trans HS1.out
              have hz : sb < wc.heap.size := Nat.lt_of_lt_of_le hsb HD.out.bel.size
              have hz2 : b < wc.heap.size := HD.out.h.lt
              have hz9 := Lib.hid H.out.o.lt
              go_region_with (first | (go_at_call 20; refine (HRO.out _).mono ?_; rintro e w3 ⟨rfl, hb⟩; (first | (have H3 := Lib.hid (HD.out.call hb); have HX := Lib.hid (show b9 < w3.heap.size from H3.out.o.lt)) | (have H3 := Lib.hid ((H.out.alloc _).drew.call hb); have HX := Lib.hid ((Blk.new wc #[.int .i64 0, .bool false] 32).call (below_drew1 hb)); obtain ⟨t1, t2, t3, t4⟩ := HX.out.two)); clear hb; obtain ⟨k1, k2, k3, k4⟩ := H3.out.h.two; dsimp only))
              all_goals
                go_wp2_with fail
                go_meet
                first | (with_reducible exact ⟨_, rfl, rfl, HX.out, Blk.new w3 _ _, H3.out.alloc _⟩) | exact ⟨_, rfl, rfl, hz9.out, hset HX.out, H3.out.far hz9.out _ _⟩
            case rest =>
              obtain ⟨b11, rfl, rfl, hlt9, hn11, h2⟩ := hcut
              clear H HRO l1 l2 l3 l4 o1 o2 o3 o4 hs0 hs1 hlt9
              obtain ⟨l1, l2, l3, l4⟩ := h2.h.two
              obtain ⟨t1, t2, t3, t4⟩ := hn11.two
              have H2 := Lib.hid h2
              clear h2 hn11
              by_cases f : sx = 1 ∧ on = true
              · as_aux_lemma =>
                  obtain ⟨rfl, rfl⟩ := f
                  have e1 : true = M := HM.out
                  have e2 : true = D := HDD.out
                  have e3 : (2 : Int) = S := HS.out
                  subst e1 e2 e3
                  have H3 := Lib.hid (H2.out.set 2 tx)
                  clear H2
                  go_wp2_with fail
                  go_meet
                  exact ⟨2, tx, rfl, rfl, by decide, H3.out⟩
              · as_aux_lemma =>
                  have e1 : false = M := (no_case f).1.symm.trans HM.out
                  have e2 : false = D := (no_case f).2.1.symm.trans HDD.out
                  have e3 : sx = S := (no_case f).2.2.symm.trans HS.out
                  subst e1 e2 e3
                  clear f HS HM HDD
                  have H3 := Lib.hid (H2.out.set sx tx)
                  clear H2
                  go_wp2_with fail
                  go_meet
                  exact ⟨sx, tx, rfl, rfl, HWF.out, H3.out⟩
        have b2 : (kind == 2) = false := by simpa using e2
        by_cases e3 : kind = 3
        · subst e3
          by_cases f : sx = 1
          · as_aux_lemma =>
              subst f
              go_wp2_with fail
              refine (jolt_any 1 tx _ (by decide)).mono ?_
              rw [show nx 1 2 = 3 from rfl]
              rintro e w3 ⟨rfl, hb⟩
              have H3 := Lib.hid ((H.out.call hb).set (3) tx)
              obtain ⟨k1, k2, k3, k4⟩ := (H.out.call hb).h.two
              clear H hb l1 l2 l3 l4 o1 o2 o3 o4 hs0 hs1
              dsimp only
              go_wp2_with fail
              go_meet
              exact ⟨3, tx, rfl, rfl, by decide, H3.out⟩
          · as_aux_lemma =>
              have hf : (sx == 1) = false := by simpa using f
              have F := Lib.hid (nx_no (step2 f))
              clear f
              go_wp2_with fail
              refine (jolt_any sx tx _ HWF.out).mono ?_
              rw [F.out]
              rintro e w3 ⟨rfl, hb⟩
              have H3 := Lib.hid ((H.out.call hb).set (sx) tx)
              obtain ⟨k1, k2, k3, k4⟩ := (H.out.call hb).h.two
              clear H hb l1 l2 l3 l4 o1 o2 o3 o4 hs0 hs1
              dsimp only
              go_wp2_with fail
              go_meet
              exact ⟨sx, tx, rfl, rfl, HWF.out, H3.out⟩
        have b3 : (kind == 3) = false := by simpa using e3
        by_cases e4 : kind = 4
        · subst e4
          by_cases f : sx = 2
          · as_aux_lemma =>
              subst f
              go_wp2_with fail
              refine (scan_any 2 tx _ (by decide)).mono ?_
              rw [show nx 2 3 = 0 from rfl, show stepF 2 3 = some 0 from rfl, show ((2 : Int) == 3) = false from rfl]
              rintro e w3 ⟨rfl, hb⟩
              have H3 := Lib.hid (((H.out.call hb).set (0) true).alloc (.cells #[.int .i64 (0), .bool true] 32))
              obtain ⟨k1, k2, k3, k4⟩ := (H.out.call hb).h.two
              have klt := (H.out.call hb).h.lt
              clear H hb l1 l2 l3 l4 o1 o2 o3 o4 hs0 hs1
              simp only [Option.isSome, Bool.or_true]
              go_wp2_with fail
              go_meet
              exact ⟨0, true, rfl, rfl, by decide, H3.out⟩
          have f2 : (sx == 2) = false := by simpa using f
          by_cases g : sx = 3
          · as_aux_lemma =>
              subst g
              go_wp2_with fail
              refine (scan_any 3 tx _ (by decide)).mono ?_
              rw [show nx 3 3 = 0 from rfl, show stepF 3 3 = some 0 from rfl, show ((3 : Int) == 3) = true from rfl]
              rintro e w3 ⟨rfl, hb⟩
              have H3 := Lib.hid (((H.out.call hb).set (0) true).alloc (.cells #[.int .i64 (0), .bool true] 32))
              obtain ⟨k1, k2, k3, k4⟩ := (H.out.call hb).h.two
              have klt := (H.out.call hb).h.lt
              clear H hb l1 l2 l3 l4 o1 o2 o3 o4 hs0 hs1
              simp only [Option.isSome, Bool.or_true]
              go_wp2_with fail
              go_meet
              exact ⟨0, true, rfl, rfl, by decide, H3.out⟩
          · as_aux_lemma =>
              have f3 : (sx == 3) = false := by simpa using g
              have F0 := Lib.hid (step3 f g)
              have F := Lib.hid (nx_no (step3 f g))
              clear f g
              go_wp2_with fail
              refine (scan_any sx tx _ HWF.out).mono ?_
              rw [F.out, F0.out, f3]
              rintro e w3 ⟨rfl, hb⟩
              have H3 := Lib.hid (((H.out.call hb).set (sx) tx).alloc (.cells #[.int .i64 (sx), .bool tx] 32))
              obtain ⟨k1, k2, k3, k4⟩ := (H.out.call hb).h.two
              have klt := (H.out.call hb).h.lt
              clear H hb l1 l2 l3 l4 o1 o2 o3 o4 hs0 hs1
              simp only [Option.isSome, Bool.or_false]
              go_wp2_with fail
              go_meet
              exact ⟨sx, tx, rfl, rfl, HWF.out, H3.out⟩
        have b4 : (kind == 4) = false := by simpa using e4
        by_cases e5 : kind = 5
        · as_aux_lemma =>
            subst e5
            go_wp2_with fail
            refine (end_any sx tx _).mono ?_
            skip
            rintro e w3 ⟨rfl, hb⟩
            have H3 := Lib.hid ((H.out.call hb).set (4) tx)
            obtain ⟨k1, k2, k3, k4⟩ := (H.out.call hb).h.two
            clear H hb l1 l2 l3 l4 o1 o2 o3 o4 hs0 hs1
            dsimp only
            go_wp2_with fail
            go_meet
            exact ⟨4, tx, rfl, rfl, by decide, H3.out⟩
        · have b5 : (kind == 5) = false := by simpa using e5
          by_cases f : sx = 4
          · as_aux_lemma =>
              subst f
              go_wp2_with fail
              refine (begin_any 4 tx _).mono ?_
              rw [show bgS 4 = 4 from rfl, show bgB 4 tx = tx from rfl]
              rintro e w3 ⟨rfl, hb⟩
              have H3 := Lib.hid ((H.out.call hb).set (4) tx)
              obtain ⟨k1, k2, k3, k4⟩ := (H.out.call hb).h.two
              clear H hb l1 l2 l3 l4 o1 o2 o3 o4 hs0 hs1
              dsimp only
              go_wp2_with fail
              go_meet
              exact ⟨4, tx, rfl, rfl, by decide, H3.out⟩
          · as_aux_lemma =>
              have hf : (sx == 4) = false := by simpa using f
              have hf2 : (sx != 4) = true := by simpa using f
              have F1 := Lib.hid (show bgS sx = 0 from if_neg f)
              have F2 := Lib.hid (show bgB sx tx = false from if_neg f)
              clear f
              go_wp2_with fail
              refine (begin_any sx tx _).mono ?_
              rw [F1.out, F2.out]
              rintro e w3 ⟨rfl, hb⟩
              have H3 := Lib.hid ((H.out.call hb).set (0) false)
              obtain ⟨k1, k2, k3, k4⟩ := (H.out.call hb).h.two
              clear H hb l1 l2 l3 l4 o1 o2 o3 o4 hs0 hs1
              dsimp only
              go_wp2_with fail
              go_meet
              exact ⟨0, false, rfl, rfl, by decide, H3.out⟩
      case rest =>
        clear l1 l2 l3 l4 hs0 hs1 hsz hblt H HWF HS0 HS1
        obtain ⟨s', t', rfl, rfl, hwf', h2⟩ := hcut
        have HWF := Lib.hid hwf'
        obtain ⟨l1, l2, l3, l4⟩ := h2.h.two
        obtain ⟨o1, o2, o3, o4⟩ := h2.o.two
        have H := Lib.hid h2
        have blt := h2.h.lt
        have olt := h2.o.lt
        have hss : (s' == s') = true := by simp
        have htt : (t' == t') = true := by simp
        clear h2 hwf'
        have M1 := Lib.hid (fun x : Ext wc => x.call (may_any s' t' x.w))
        have M2 := Lib.hid (fun x : Ext wc => x.call (may_any sx tx x.w))
        have w1 : s' = 0 ∨ s' = 1 ∨ ((s' == 0) = false ∧ (s' == 1) = false ∧ mayF s' = false) := by
          by_cases g0 : s' = 0
          · exact .inl g0
          · by_cases g1 : s' = 1
            · exact .inr (.inl g1)
            · exact .inr (.inr ⟨by simpa using g0, by simpa using g1, by simp [mayF, g0, g1]⟩)
        have w2 : sx = 0 ∨ sx = 1 ∨ ((sx == 0) = false ∧ (sx == 1) = false ∧ mayF sx = false) := by
          by_cases g0 : sx = 0
          · exact .inl g0
          · by_cases g1 : sx = 1
            · exact .inr (.inl g1)
            · exact .inr (.inr ⟨by simpa using g0, by simpa using g1, by simp [mayF, g0, g1]⟩)
        rcases w1 with rfl | rfl | ⟨g1, g2, g3⟩
        all_goals rcases w2 with rfl | rfl | ⟨g4, g5, g6⟩
        all_goals
          try rw [g3] at M1
          try rw [show mayF 0 = true from rfl] at M1
          try rw [show mayF 1 = true from rfl] at M1
          try rw [g6] at M2
          try rw [show mayF 0 = true from rfl] at M2
          try rw [show mayF 1 = true from rfl] at M2
          go_wp2_with fail
          refine Ext.region wc (by kernel_rfl) (by kernel_rfl) (Below.refl _ _) ?_
          repeat (go_big_quiet_step ((go_at_call 24; (first | (with_reducible exact M1.out _) | (with_reducible exact M2.out _)))))
          refine wpQuiet_nil ?_
          rintro _ ⟨xq, rfl⟩
          have H3 := Lib.hid (H.out.call xq.below)
          go_wp2_with fail
          exact ⟨⟨k + 1, _, _, by omega, rfl, rfl, by go_num, HWF.out, H3.out.h, H3.out.bel⟩, by simp [intOf]; omega⟩
    · obtain rfl : k = n := by omega
      go_wp2_with fail
      go_ret
      exact ⟨rfl, hw⟩

theorem walk (st : Int) (bl : Bool) (A : Option Addr) (n c : Nat) (l : List (Int × Bool)) (w : World) (hwf : (Lit.int .i64 st).wf = true) (hl : l.length = n) (hlw : ∀ q ∈ l, (Lit.int .i64 q.1).wf = true) (hR : Reads w w.heap.size 2 A n c (ibCells l)) :
    Calls Try.prog 5 #[.int .i64 st, .bool bl, .slice A n c] w fun e w' => e = .returned (.bool true) ∧ Below w.heap.size w w' := by
  by_cases h : 60 < n
  · exact early st bl A n c w h
  · exact core st bl A n c l w hwf hl hlw hR (by omega)
end Go.Proofs.Ytpdleckflcangaa.AskPlays
