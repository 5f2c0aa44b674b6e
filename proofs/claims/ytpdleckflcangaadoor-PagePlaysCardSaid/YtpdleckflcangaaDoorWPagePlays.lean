/- The walk of besomlaw5.PagePlays: it returns true, and writes nothing that was there. -/
import Derived.Test.YtpdleckflcangaaDoorPgP
import Derived.Test.YtpdleckflcangaaDoorArgs
import Derived.Deep.OwnRows
import Derived.Deep.CutBlock
import Derived.Deep.CutRange
namespace Go.Proofs.YtpdleckflcangaaDoor.PagePlays
open Go.RowKit Pg Bit PageFull PageSweeps
set_option linter.unusedSimpArgs false
set_option linter.unusedVariables false

theorem infoB : (Tryd.prog.info? 4).map (fun i => (i.zero, i.size, i.bytes)) = some (some (.bool false), 1, 1) := by kernel_rfl
/-- The least slot from j on that is not used, or -1. -/
def Want (U n j : Nat) (wt : Int) : Prop := (wt = -1 ∧ ∀ i, j ≤ i → i < n → U.testBit i = true) ∨ ∃ k : Nat, wt = (k : Int) ∧ j ≤ k ∧ k < n ∧ U.testBit k = false ∧ ∀ i, j ≤ i → i < k → U.testBit i = true
set_option maxRecDepth 100000 in
theorem early (c : Int) (A : Option Addr) (n cc : Nat) (a : Int) (w : World) (hT : Tab w) (h : 150 < n) :
    Calls Tryd.prog 5 #[.int .i64 c, .slice A n cc, .int .i64 a] w fun e w' => e = .returned (.bool true) ∧ Below w.heap.size w w' := by
  have HT := Lib.hid hT
  have h1 : (150 : Int) < (n : Int) := by omega
  clear hT h
  go_enter Tryd.func5, Tryd.ntmps5
  go_wp2_with fail
  refine (alive _ HT.out).mono ?_
  rintro e w1 ⟨rfl, hb1⟩
  dsimp only
  go_wp2_with fail
  go_ret
  exact ⟨rfl, hb1⟩
set_option maxRecDepth 100000 in
theorem none_ (c : Int) (A : Option Addr) (n cc : Nat) (a : Int) (w : World) (hT : Tab w) (h : n ≤ 150) (hc : Cls.csz c = 0) (hs : Cls.csl c = 0) :
    Calls Tryd.prog 5 #[.int .i64 c, .slice A n cc, .int .i64 a] w fun e w' => e = .returned (.bool true) ∧ Below w.heap.size w w' := by
  have HT := Lib.hid hT
  have HC := Lib.hid hc
  have HS := Lib.hid hs
  have h1 : ¬ (150 : Int) < (n : Int) := by omega
  clear hT h hc hs
  go_enter Tryd.func5, Tryd.ntmps5
  go_wp2_with fail
  refine (alive _ HT.out).mono ?_
  rintro e w1 ⟨rfl, hb1⟩
  dsimp only
  go_wp2_with fail
  refine (new_no c _ HS.out).mono ?_
  rintro e w2 ⟨rfl, rfl⟩
  dsimp only
  go_wp2_with fail
  refine (Cls.rsize_any _ _).mono ?_
  rw [HC.out]
  rintro e w3 ⟨rfl, hb3⟩
  dsimp only
  go_wp2_with fail
  go_ret
  exact ⟨rfl, fresh_call hb1 hb3⟩
set_option maxRecDepth 100000 in
set_option maxHeartbeats 40000000 in
theorem core (c : Int) (A : Option Addr) (m cc : Nat) (l : List (Value × Value)) (a : Int) (n s : Nat) (w : World) (hT : Tab w) (hl : l.length = m) (wl : ∀ q ∈ l, (∃ z, q.1 = .int .i64 z ∧ (Lit.int .i64 z).wf = true) ∧ (∃ z, q.2 = .int .i64 z ∧ (Lit.int .i64 z).wf = true)) (hR : Reads w w.heap.size 2 A m cc (pairCells l)) (hm : m ≤ 150)
    (hc : Cls.csl c = (n : Int)) (hs : Cls.csz c = (s : Int)) (hn : 0 < n) (hn2 : n ≤ 32) (hs0 : 0 < s) (hd : 32 / s = n) :
    Calls Tryd.prog 5 #[.int .i64 c, .slice A m cc, .int .i64 a] w fun e w' => e = .returned (.bool true) ∧ Below w.heap.size w w' := by
  have HC := Lib.hid hc
  have HS := Lib.hid hs
  have HT := Lib.hid hT
  have HR := Lib.hid hR
  have HL := Lib.hid hl
  have WL := Lib.hid wl
  have hs1 : ((s : Int) == 0) = false := by simp; omega
  have hs2 : (0 : Int) ≤ (s : Int) := by omega
  have hs3 : (1 : Int) ≤ (s : Int) := by omega
  have hm1 : ¬ (150 : Int) < (m : Int) := by omega
  have hw0 := hT.1
  have HD := Lib.hid (div_fact hd)
  have hn1 : (1 : Int) ≤ (n : Int) := by omega
  have hn3 : (n : Int) ≤ 32 := by omega
  clear hc hs hT hd hR hl wl
  have hmk := Lib.hid (fun (W : World) => run_make_row' (P := Tryd.prog) 38 4 (.bool false) 1 Tryd.underlying38 infoB rfl .i64 .i64 n (by omega) (by omega) W)
  go_enter Tryd.func5, Tryd.ntmps5
  go_wp2_with fail
  refine (alive _ HT.out).mono ?_
  rintro e w2 ⟨rfl, hb2⟩
  have HB2 := Lib.hid hb2
  clear hb2
  dsimp only
  go_wp2_with fail
  refine (new_yes c n _ HC.out hn).mono ?_
  rintro e w3 ⟨rfl, hp, hb3⟩
  have H3 := Lib.hid (show PW w w3 w2.heap.size c n 0 0 from ⟨hp, HB2.out.size, fresh_call HB2.out hb3, HT.out.call (fresh_call HB2.out hb3)⟩)
  clear hp hb3 HB2
  generalize w2.heap.size = bp at *
  dsimp only
  go_wp2_with fail
  refine (Cls.rsize_any _ _).mono ?_
  rw [HS.out]
  rintro e w4 ⟨rfl, hb4⟩
  have H4 := Lib.hid (H3.out.call hb4)
  clear hb4 H3
  dsimp only
  go_upto_region 10 with (fail)
  rw [HD.out]
  clear hs1 hs2 hs3 HD
  have hm2 := hmk.out
  simp only [bcf_made] at hm2
  have hz4 := H4.out.bel.size
  have hp4 := H4.out.page.blk.lt
  go_cut [11, 12] from 66 to 69 (fun p q wx => ∃ bu bm : Nat, p = .slice (some ⟨bu, 0, none⟩) n n ∧ q = .slice (some ⟨bm, 0, none⟩) n n ∧ bu ≠ bm ∧ PW w wx bp c n 0 0 ∧ Blk wx bu (bcf n fun _ => false) 4 ∧ Blk wx bm (bcf n fun _ => false) 4 ∧ w.heap.size ≤ bu ∧ w.heap.size ≤ bm)
  case first =>
    have HA := Lib.hid (show PW w (((w4.alloc (.cells (bcf n fun _ => false) 4)).alloc (.cells (bcf n fun _ => false) 4)).drew) bp c n 0 0 from (((H4.out.call ((Below.refl _ _).alloc (Nat.le_refl _) _)).call ((Below.refl _ _).alloc (Nat.le_refl _) _)).drewN 1))
    have HB := Lib.hid (show Blk ((w4.alloc (.cells (bcf n fun _ => false) 4)).alloc (.cells (bcf n fun _ => false) 4)).drew w4.heap.size (bcf n fun _ => false) 4 ∧ Blk ((w4.alloc (.cells (bcf n fun _ => false) 4)).alloc (.cells (bcf n fun _ => false) 4)).drew (w4.heap.size + 1) (bcf n fun _ => false) 4 from
      ⟨(Blk.new w4 _ _).alloc _, by have := Blk.new (w4.alloc (.cells (bcf n fun _ => false) 4)) (bcf n fun _ => false) 4; rw [World.size_alloc] at this; exact this⟩)
    go_region
    · go_wp2_with fail
      go_meet
      exact ⟨_, _, rfl, rfl, by omega, HA.out, HB.out.1, HB.out.2, hz4, by omega⟩
    · go_wp2_with fail
      go_meet
      exact ⟨_, _, rfl, rfl, by omega, HA.out, HB.out.2, HB.out.1, by omega, hz4⟩
  case rest =>
    obtain ⟨bu, bm, rfl, rfl, hne, hpw, hbu, hbm, hnu, hnm⟩ := hcut
    have HP := Lib.hid (show PL w (wc.alloc (.cells #[.slice none 0 0, .slice none 0 0, .slice none 0 0, .slice none 0 0, .slice none 0 0, .slice none 0 0, .slice none 0 0, .slice none 0 0, .slice none 0 0, .slice none 0 0] 46)) bp bu bm wc.heap.size wc.heap.size c n 0 0 (Nat.testBit 0) (Nat.testBit 0) from
      PL.congr (f := fun _ => false) (g := fun _ => false) ⟨hpw.call ((Below.refl _ _).alloc (Nat.le_refl _) _), hbu.alloc _, hbm.alloc _, hne, hnu, hnm, hpw.page.blk.lt, hbu.lt, hbm.lt, by simp, Book.BookOk.new wc _ (Nat.le_refl _)⟩ (fun i _ => by simp) (fun i _ => by simp))
    clear hpw hbu hbm H4 hm2 hmk hz4 hp4 hne hnu hnm
    go_wp2_with fail
    generalize wc.alloc (.cells #[.slice none 0 0, .slice none 0 0, .slice none 0 0, .slice none 0 0, .slice none 0 0, .slice none 0 0, .slice none 0 0, .slice none 0 0, .slice none 0 0, .slice none 0 0] 46) = w6 at *
    generalize wc.heap.size = z at *
    go_loopw [14] (fun i wr => ∃ k U M : Nat, k ≤ m ∧ i = .int .i64 k ∧ PQ w wr bp bu bm z z c n U M) (fun i _ => m - (intOf i).toNat)
    case atStart => exact ⟨0, 0, 0, Nat.zero_le _, rfl, HP.out⟩
    case round =>
      obtain ⟨k, U, M, hk, rfl, hpq⟩ := hrel
      have HQ := Lib.hid (show PL w wr bp bu bm z z c n U M U.testBit M.testBit from hpq)
      clear hpq HP
      by_cases hlt : k < m
      · have hkn : (k : Int) < (m : Int) := by omega
        have hk0 : (0 : Int) ≤ (k : Int) := by omega
        have hkz : k < l.length := by have := HL.out; omega
        obtain ⟨sb, off, rfl, hsb, hs0⟩ := (HR.out.below HQ.out.pw.bel).at_ (pairCells_at (List.getElem?_eq_getElem hkz)).1
        obtain ⟨sb', off', hA, hsb', hs1⟩ := (HR.out.below HQ.out.pw.bel).at_ (pairCells_at (List.getElem?_eq_getElem hkz)).2
        injection hA with hA
        injection hA with hA1 hA2
        subst hA1 hA2
        obtain ⟨⟨kind, hkd, _⟩, ⟨N, hN, _⟩⟩ := WL.out _ (List.getElem_mem hkz)
        rw [hkd] at hs0
        rw [hN, ← Nat.add_assoc] at hs1
        clear hkd hN hkz hsb'
        go_upto_region 16 with (fail)
        go_cut [16] from 83 to 89 (fun p wx => p = .bool (inb n N) ∧ wx = wr)
        case first =>
          rcases inb_cases n N with ⟨h1, j, rfl, h2⟩ | ⟨h1, h2⟩
          · have HI := Lib.hid h1
            have h3 : (j : Int) < (n : Int) := by omega
            have h4 : (0 : Int) ≤ (j : Int) := by omega
            clear h1
            go_wp2_with fail
            go_meet
            exact ⟨by rw [HI.out], rfl⟩
          · have HI := Lib.hid h1
            clear h1
            by_cases h3 : N < 0
            · clear h2
              go_wp2_with fail
              go_meet
              exact ⟨by rw [HI.out], rfl⟩
            · have h4 : (n : Int) ≤ N := by omega
              have h5 : 0 ≤ N := by omega
              have h6 : ¬ N < (n : Int) := by omega
              clear h2 h3
              go_wp2_with fail
              go_meet
              exact ⟨by rw [HI.out], rfl⟩
        case rest =>
          obtain ⟨rfl, rfl⟩ := hcut
          go_upto_block 2 with (fail)
          go_cut [16, 17, 18, 19, 20, 21, 22, 23, 24] from 95 to 209 (fun _ _ _ _ _ _ _ _ _ wx => ∃ U' M' : Nat, PQ w wx bp bu bm z z c n U' M')
          case first =>
            clear hs0 hs1
            by_cases e1 : kind = 1
            · as_aux_lemma =>
                subst e1
                go_wp2_with fail
                go_loop [17, 18] (fun q i => ∃ (j : Nat) (wt : Int), j ≤ n ∧ i = .int .i64 ((j : Int) - 1) ∧ q = .int .i64 wt ∧ Want U n j wt) (fun _ i => ((match i with | .int _ y => y | _ => 0) + 1).toNat)
                case atStart => exact ⟨n, -1, Nat.le_refl _, rfl, rfl, .inl ⟨rfl, fun i h1 h2 => by omega⟩⟩
                case round =>
                  obtain ⟨j, wt, hj, rfl, rfl, hwt⟩ := hrel
                  have HWT := Lib.hid hwt
                  clear hwt
                  rcases j with _ | j
                  · have HW := Lib.hid HWT.out
                    rcases HWT.out with ⟨rfl, hall⟩ | ⟨q, rfl, _, hq, hq1, hq2⟩
                    · have HA := Lib.hid (show ∀ i, i < n → U.testBit i = true from fun i h => hall i (Nat.zero_le _) h)
                      clear hall
                      go_wp2_with fail
                      refine (take_no _ _ _ _ _ _ HQ.out.pw.page HQ.out.pw.tab HA.out).mono ?_
                      rintro e w7 ⟨rfl, rfl⟩
                      dsimp only
                      go_wp2_with fail
                      go_meet
                      exact ⟨U, M, HQ.out⟩
                    · have HA := Lib.hid (show U.testBit q = false ∧ ∀ i, i < q → U.testBit i = true from ⟨hq1, fun i h => hq2 i (Nat.zero_le _) h⟩)
                      have hq3 : (0 : Int) ≤ (q : Int) := by omega
                      have hq4 : (q : Int) < (n : Int) := by omega
                      clear hq1 hq2
                      go_wp2_with fail
                      refine (take_yes _ _ _ _ _ q _ HQ.out.pw.page HQ.out.pw.tab hq HA.out.1 HA.out.2).mono ?_
                      rintro e w7 ⟨rfl, hp, hkk⟩
                      have H7 := Lib.hid (HQ.out.page hw0 hp hkk)
                      obtain ⟨cu, fu⟩ := bcf_cell H7.out.ub hq
                      clear hp hkk
                      have H8 := Lib.hid (show PQ w (w7.setCell ⟨bu, q, none⟩ (.bool true)) bp bu bm z z c n (ins U q) (del M q) from (H7.out.setU q true).congr
                        (fun i hi => by rw [ins_bit]; by_cases h : i = q <;> simp [h]; omega) (fun i hi => by
                          rw [del_bit HQ.out.pw.page.hM (by omega)]
                          by_cases h : q = i
                          · subst h
                            have : M.testBit q = false := by
                              cases hh : M.testBit q with
                              | false => rfl
                              | true => have := HQ.out.pw.page.inM q hh; rw [HA.out.1] at this; cases this
                            simp [this]
                          · simp [h]))
                      dsimp only
                      go_wp2_with fail
                      go_meet
                      exact ⟨_, _, H8.out⟩
                  · have hjn : j < n := by omega
                    rw [show ((j + 1 : Nat) : Int) - 1 = (j : Int) from by omega]
                    obtain ⟨cu, fu⟩ := bcf_cell HQ.out.ub hjn
                    have hj1 : (0 : Int) ≤ (j : Int) := by omega
                    have hj2 : (j : Int) < (n : Int) := by omega
                    cases hb : U.testBit j
                    · rw [hb] at cu
                      have HN := Lib.hid (show Want U n j (j : Int) from .inr ⟨j, rfl, Nat.le_refl _, hjn, hb, fun i h1 h2 => by omega⟩)
                      clear hb
                      go_wp2_with fail
                      go_round
                      case rel => exact ⟨j, (j : Int), by omega, rfl, rfl, HN.out⟩
                      case measure => simp <;> omega
                    · rw [hb] at cu
                      have HN := Lib.hid (show Want U n j wt from by
                        rcases HWT.out with ⟨rfl, hall⟩ | ⟨q, rfl, hq0, hq, hq1, hq2⟩
                        · exact .inl ⟨rfl, fun i h1 h2 => by by_cases h : i = j; (subst h; exact hb); exact hall i (by omega) h2⟩
                        · exact .inr ⟨q, rfl, by omega, hq, hq1, fun i h1 h2 => by by_cases h : i = j; (subst h; exact hb); exact hq2 i (by omega) h2⟩)
                      clear hb
                      go_wp2_with fail
                      go_round
                      case rel => exact ⟨j, wt, by omega, rfl, rfl, HN.out⟩
                      case measure => simp <;> omega
            have b1 : (kind == 1) = false := by simpa using e1
            by_cases e2 : kind = 2
            · subst e2
              rcases inb_cases n N with ⟨h1, j, rfl, h2⟩ | ⟨h1, h2⟩
              · have h3 : (j : Int) < (n : Int) := by omega
                have h4 : (0 : Int) ≤ (j : Int) := by omega
                obtain ⟨cu, fu⟩ := bcf_cell HQ.out.ub h2
                obtain ⟨cm, fm⟩ := bcf_cell HQ.out.mb h2
                cases hb : U.testBit j
                · as_aux_lemma =>
                    rw [hb] at cu
                    have HB := Lib.hid (show at_ U (j : Int) = false from at_nat.trans hb)
                    have hmb : M.testBit j = false := by
                      cases hh : M.testBit j with
                      | false => rfl
                      | true => have := HQ.out.pw.page.inM j hh; rw [hb] at this; cases this
                    have H8 := Lib.hid (show PQ w ((wc.setCell ⟨bu, j, none⟩ (.bool false)).setCell ⟨bm, j, none⟩ (.bool false)) bp bu bm z z c n U M from ((HQ.out.setU j false).setM j false).congr
                      (fun i hi => by by_cases h : i = j <;> simp [h, hb]) (fun i hi => by by_cases h : i = j <;> simp [h, hmb]))
                    have hne := HQ.out.ne
                    clear hb hmb
                    go_wp2_with fail
                    refine (free_no _ _ _ _ _ _ _ HQ.out.pw.page HB.out).mono ?_
                    rintro e w7 ⟨rfl, rfl⟩
                    dsimp only
                    go_wp2_with fail
                    go_meet
                    exact ⟨_, _, H8.out⟩
                · as_aux_lemma =>
                    rw [hb] at cu
                    have HB := Lib.hid hb
                    clear hb
                    go_wp2_with fail
                    refine (free_yes _ _ _ _ _ j _ HQ.out.pw.page HB.out).mono ?_
                    rintro e w7 ⟨rfl, hp, hkk⟩
                    have H7 := Lib.hid (HQ.out.page hw0 hp hkk)
                    have hU := HQ.out.pw.page.hU
                    have hM := HQ.out.pw.page.hM
                    clear hp hkk cu fu cm fm HQ
                    obtain ⟨cu, fu⟩ := bcf_cell H7.out.ub h2
                    obtain ⟨cm, fm⟩ := bcf_cell H7.out.mb h2
                    rw [HB.out] at cu
                    have H8 := Lib.hid (show PQ w ((w7.setCell ⟨bu, j, none⟩ (.bool false)).setCell ⟨bm, j, none⟩ (.bool false)) bp bu bm z z c n (del U j) (del M j) from ((H7.out.setU j false).setM j false).congr
                      (fun i hi => by rw [del_bit hU (by omega)]; by_cases h : i = j <;> simp [h]; omega) (fun i hi => by rw [del_bit hM (by omega)]; by_cases h : i = j <;> simp [h]; omega))
                    have hne := H7.out.ne
                    dsimp only
                    go_wp2_with fail
                    go_meet
                    exact ⟨_, _, H8.out⟩
              · as_aux_lemma =>
                  have HB := Lib.hid (show at_ U N = false from by
                    rcases at_cases HQ.out.pw.page.inU N with ⟨_, h⟩ | ⟨j, rfl, h, _⟩
                    · exact h
                    · omega)
                  clear h2
                  go_wp2_with fail
                  refine (free_no _ _ _ _ _ _ _ HQ.out.pw.page HB.out).mono ?_
                  rintro e w7 ⟨rfl, rfl⟩
                  dsimp only
                  go_wp2_with fail
                  go_meet
                  exact ⟨_, _, HQ.out⟩
            have b2 : (kind == 2) = false := by simpa using e2
            by_cases e3 : kind = 3
            · subst e3
              rcases inb_cases n N with ⟨h1, j, rfl, h2⟩ | ⟨h1, h2⟩
              · have h3 : (j : Int) < (n : Int) := by omega
                have h4 : (0 : Int) ≤ (j : Int) := by omega
                obtain ⟨cu, fu⟩ := bcf_cell HQ.out.ub h2
                obtain ⟨cm, fm⟩ := bcf_cell HQ.out.mb h2
                by_cases hmay : U.testBit j = true ∧ M.testBit j = false
                · as_aux_lemma =>
                    obtain ⟨hb, hmb⟩ := hmay
                    rw [hb] at cu
                    rw [hmb] at cm
                    have HB := Lib.hid (show U.testBit j = true ∧ M.testBit j = false from ⟨hb, hmb⟩)
                    clear hb hmb
                    go_wp2_with fail
                    refine (mark_yes _ _ _ _ _ j _ HQ.out.pw.page HB.out.1 HB.out.2).mono ?_
                    rintro e w7 ⟨rfl, hp, hkk⟩
                    have H7 := Lib.hid (HQ.out.page hw0 hp hkk)
                    clear hp hkk cu fu cm fm HQ
                    obtain ⟨cm, fm⟩ := bcf_cell H7.out.mb h2
                    have H8 := Lib.hid (show PQ w (w7.setCell ⟨bm, j, none⟩ (.bool true)) bp bu bm z z c n U (ins M j) from (H7.out.setM j true).congr
                      (fun i hi => rfl) (fun i hi => by rw [ins_bit]; by_cases h : i = j <;> simp [h]; omega))
                    dsimp only
                    go_wp2_with fail
                    go_meet
                    exact ⟨_, _, H8.out⟩
                · have HB := Lib.hid (show (at_ U (j : Int) && !at_ M (j : Int)) = false from by
                    rw [at_nat, at_nat]
                    cases h : U.testBit j
                    · rfl
                    · cases h' : M.testBit j
                      · exact absurd ⟨h, h'⟩ hmay
                      · rfl)
                  cases hb : U.testBit j
                  · as_aux_lemma =>
                      rw [hb] at cu
                      clear hb hmay
                      go_wp2_with fail
                      refine (mark_no _ _ _ _ _ _ _ HQ.out.pw.page HB.out).mono ?_
                      rintro e w7 ⟨rfl, rfl⟩
                      dsimp only
                      go_wp2_with fail
                      go_meet
                      exact ⟨_, _, HQ.out⟩
                  · as_aux_lemma =>
                      have hmb : M.testBit j = true := by
                        cases h' : M.testBit j
                        · exact absurd ⟨hb, h'⟩ hmay
                        · rfl
                      rw [hb] at cu
                      rw [hmb] at cm
                      clear hb hmay hmb
                      go_wp2_with fail
                      refine (mark_no _ _ _ _ _ _ _ HQ.out.pw.page HB.out).mono ?_
                      rintro e w7 ⟨rfl, rfl⟩
                      dsimp only
                      go_wp2_with fail
                      go_meet
                      exact ⟨_, _, HQ.out⟩
              · as_aux_lemma =>
                  have HB := Lib.hid (show (at_ U N && !at_ M N) = false from by
                    rcases at_cases HQ.out.pw.page.inU N with ⟨_, h⟩ | ⟨j, rfl, h, _⟩
                    · rw [h]; rfl
                    · omega)
                  clear h2
                  go_wp2_with fail
                  refine (mark_no _ _ _ _ _ _ _ HQ.out.pw.page HB.out).mono ?_
                  rintro e w7 ⟨rfl, rfl⟩
                  dsimp only
                  go_wp2_with fail
                  go_meet
                  exact ⟨_, _, HQ.out⟩
            have b3 : (kind == 3) = false := by simpa using e3
            as_aux_lemma =>
              have HI0 := Lib.hid (info_parts infoI)
              go_wp2_with fail
              obtain ⟨wo, rfl⟩ : ∃ wo : World, wo = wc := ⟨_, rfl⟩
              have H0 := Lib.hid (show Blk wo bu (bcf n fun i => if i < 0 then U.testBit i && M.testBit i else U.testBit i) 4 ∧ Blk wo bm (bcf n fun i => if i < 0 then false else M.testBit i) 4 ∧ bu < wo.heap.size ∧ bm < wo.heap.size from
                ⟨HQ.out.ub.of_eq (bcf_congr fun i _ => by simp), HQ.out.mb.of_eq (bcf_congr fun i _ => by simp), HQ.out.ub.lt, HQ.out.mb.lt⟩)
              have hne := HQ.out.ne
              go_loopw [22, 23] (fun q i wx => ∃ (j : Nat) (aW : Option Addr) (cW : Nat), j ≤ n ∧ i = .int .i64 (j : Int) ∧ q = .slice aW (sl j fun i => U.testBit i && !M.testBit i).length cW ∧ Kept (fun i => i = bu ∨ i = bm) wo wx ∧
                Blk wx bu (bcf n fun i => if i < j then U.testBit i && M.testBit i else U.testBit i) 4 ∧ Blk wx bm (bcf n fun i => if i < j then false else M.testBit i) 4 ∧
                wx.ownsRow wo.heap.size 3 1 (.slice aW (sl j fun i => U.testBit i && !M.testBit i).length cW) (sl j fun i => U.testBit i && !M.testBit i).length (nats (sl j fun i => U.testBit i && !M.testBit i))) (fun _ i _ => n - (intOf i).toNat)
              case atStart => exact ⟨0, none, 0, Nat.zero_le _, rfl, rfl, Kept.refl _ _, H0.out.1, H0.out.2.1, World.ownsRow_nil _ _ _ _⟩
              case round =>
                obtain ⟨j, aW, cW, hj, rfl, rfl, hkp, hub, hmb, how⟩ := hrel
                have HK := Lib.hid hkp
                have HO := Lib.hid how
                have HUB := Lib.hid hub
                have HMB := Lib.hid hmb
                have hz := hkp.size
                have hll : (sl j fun i => U.testBit i && !M.testBit i).length ≤ 32 := by have := sl_len j fun i => U.testBit i && !M.testBit i; omega
                by_cases hjn : j < n
                · obtain ⟨cu, fu⟩ := bcf_cell hub hjn
                  obtain ⟨cm, fm⟩ := bcf_cell hmb hjn
                  have hj1 : (0 : Int) ≤ (j : Int) := by omega
                  have hj2 : (j : Int) < (n : Int) := by omega
                  have hsz1 : bu < wr.heap.size := by have := H0.out.2.2.1; omega
                  have hsz2 : bm < wr.heap.size := by have := H0.out.2.2.2; omega
                  simp only [Nat.lt_irrefl, if_false] at cu cm
                  clear hkp how hub hmb
                  have HS := Lib.hid (sl_succ j fun i => U.testBit i && !M.testBit i)
                  by_cases hgo : U.testBit j = true ∧ M.testBit j = false
                  · obtain ⟨hb, hmb⟩ := hgo
                    rw [hb] at cu
                    rw [hmb] at cm
                    rw [hb, hmb] at HS
                    have HBM := Lib.hid (show U.testBit j = true ∧ M.testBit j = false from ⟨hb, hmb⟩)
                    clear hb hmb
                    obtain ⟨L, hL⟩ : ∃ L, (sl j fun i => U.testBit i && !M.testBit i) = L := ⟨_, rfl⟩
                    rw [hL] at HO HS hll ⊢
                    clear hL
                    go_wp2_with (first
                      | (at_builtin; go_loud (refine wpList_app _ rfl _ _ 32 rfl wo.heap.size 3 HI0.out.choose (.int .i64 0) 1 8 Tryd.underlying32 HI0.out.choose_spec.1 HI0.out.choose_spec.2.1 HI0.out.choose_spec.2.2.1 HI0.out.choose_spec.2.2.2 rfl (by decide) _ _ _ rfl (HO.out.alloc _) (wr.heap.size + 1) _ 1 1 [.int .i64 (j : Int)] rfl (Blk.reads (Blk.new wr _ _) (by simp) rfl rfl (by decide)) ?c1 ?c2 ?c3 ?c4 ?_))
                      | fail)
                    case c1 => intro u hu; simp at hu; subst hu; rfl
                    case c2 => unfold maxLen; omega
                    case c3 => omega
                    case c4 => simp; omega
                    intro a' c' w2 ho2 hg2 hat2
                    have hnu : ∀ b, b < wo.heap.size → some b ≠ (Value.slice aW L.length cW).ownBlock := fun b hb e => by have := (HO.out.lt b e.symm).1; omega
                    have hu2 : Blk w2 bu _ _ := Book.blk_row (HUB.out.alloc _) hg2 (hnu bu H0.out.2.2.1)
                    have hm2 : Blk w2 bm _ _ := Book.blk_row (HMB.out.alloc _) hg2 (hnu bm H0.out.2.2.2)
                    have hk2 : Kept (fun i => i = bu ∨ i = bm) wo w2 := (HK.out.alloc _).step (Book.kept_grown (S := fun k => wo.heap.size ≤ k) hg2 (fun k e => (HO.out.lt k e).1)) (fun i hi e => by omega)
                    obtain ⟨du, ju⟩ := bcf_cell hu2 hjn
                    obtain ⟨dm, jm⟩ := bcf_cell hm2 hjn
                    have hlt1 := hu2.lt
                    have hlt2 := hm2.lt
                    have HN := Lib.hid (show Kept (fun i => i = bu ∨ i = bm) wo ((w2.setCell ⟨bu, j, none⟩ (.bool false)).setCell ⟨bm, j, none⟩ (.bool false)) ∧
                        Blk ((w2.setCell ⟨bu, j, none⟩ (.bool false)).setCell ⟨bm, j, none⟩ (.bool false)) bu (bcf n fun i => if i < j + 1 then U.testBit i && M.testBit i else U.testBit i) 4 ∧
                        Blk ((w2.setCell ⟨bu, j, none⟩ (.bool false)).setCell ⟨bm, j, none⟩ (.bool false)) bm (bcf n fun i => if i < j + 1 then false else M.testBit i) 4 ∧
                        ((w2.setCell ⟨bu, j, none⟩ (.bool false)).setCell ⟨bm, j, none⟩ (.bool false)).ownsRow wo.heap.size 3 1 (.slice a' (L ++ [j]).length c') (L ++ [j]).length (nats (L ++ [j])) from
                      ⟨(hk2.set (p := ⟨bu, j, none⟩) (.inl (.inl rfl)) _).set (p := ⟨bm, j, none⟩) (.inl (.inr rfl)) _,
                       (((hu2.set j (.bool false)).of_eq (bcf_set _ _)).of_eq (bcf_congr fun i hi => by
                         by_cases h1 : i = j
                         · subst h1; simp [HBM.out.2]
                         · by_cases h2 : i < j
                           · simp [h1, h2, show i < j + 1 by omega]
                           · simp [h1, h2, show ¬ i < j + 1 by omega])).other (a := ⟨bm, j, none⟩) hne _,
                       (((hm2.other (a := ⟨bu, j, none⟩) hne.symm _).set j (.bool false)).of_eq (bcf_set _ _)).of_eq (bcf_congr fun i hi => by
                         by_cases h1 : i = j
                         · subst h1; simp
                         · by_cases h2 : i < j
                           · simp [h1, h2, show i < j + 1 by omega]
                           · simp [h1, h2, show ¬ i < j + 1 by omega]),
                       own_block (own_block (by simpa [nats, ints] using ho2) (fun k e => Below.heap_setCell w2 ⟨bu, j, none⟩ _ k (fun e2 => by subst e2; exact own_ne (by simpa [nats, ints] using ho2) hu2 (by decide) e.symm)))
                         (fun k e => Below.heap_setCell _ ⟨bm, j, none⟩ _ k (fun e2 => by subst e2; exact own_ne (by simpa [nats, ints] using ho2) hm2 (by decide) e.symm))⟩)
                    have HLL := Lib.hid (show (L ++ [j]).length = L.length + 1 by simp)
                    simp only [Nat.lt_irrefl, if_false] at du dm
                    rw [HBM.out.1] at du
                    rw [HBM.out.2] at dm
                    clear ho2 hg2 hat2 hu2 hm2 hk2 cu fu cm fm hnu
                    go_wp2_with fail
                    go_roundw
                    case rel => exact ⟨j + 1, a', c', by omega, by go_num, by rw [HS.out]; simp, HN.out.1, HN.out.2.1, HN.out.2.2.1, by rw [HS.out]; simpa using HN.out.2.2.2⟩
                    case measure => simp [intOf]; omega
                  · have HN := Lib.hid (show Kept (fun i => i = bu ∨ i = bm) wo (wr.setCell ⟨bm, j, none⟩ (.bool false)) ∧
                        Blk (wr.setCell ⟨bm, j, none⟩ (.bool false)) bu (bcf n fun i => if i < j + 1 then U.testBit i && M.testBit i else U.testBit i) 4 ∧
                        Blk (wr.setCell ⟨bm, j, none⟩ (.bool false)) bm (bcf n fun i => if i < j + 1 then false else M.testBit i) 4 ∧
                        (wr.setCell ⟨bm, j, none⟩ (.bool false)).ownsRow wo.heap.size 3 1 (.slice aW (sl j fun i => U.testBit i && !M.testBit i).length cW) (sl j fun i => U.testBit i && !M.testBit i).length (nats (sl j fun i => U.testBit i && !M.testBit i)) from
                      ⟨HK.out.set (p := ⟨bm, j, none⟩) (.inl (.inr rfl)) _,
                       (HUB.out.of_eq (bcf_congr fun i hi => by
                         by_cases h1 : i = j
                         · subst h1
                           cases hx : U.testBit i
                           · simp
                           · cases hy : M.testBit i
                             · exact absurd ⟨hx, hy⟩ hgo
                             · simp
                         · by_cases h2 : i < j
                           · simp [h1, h2, show i < j + 1 by omega]
                           · simp [h1, h2, show ¬ i < j + 1 by omega])).other (a := ⟨bm, j, none⟩) hne _,
                       ((HMB.out.set j (.bool false)).of_eq (bcf_set _ _)).of_eq (bcf_congr fun i hi => by
                         by_cases h1 : i = j
                         · subst h1; simp
                         · by_cases h2 : i < j
                           · simp [h1, h2, show i < j + 1 by omega]
                           · simp [h1, h2, show ¬ i < j + 1 by omega]),
                       own_block HO.out (fun k e => Below.heap_setCell wr ⟨bm, j, none⟩ _ k (fun e2 => by subst e2; exact own_ne HO.out HMB.out (by decide) e.symm))⟩)
                    have HGO := Lib.hid (show (U.testBit j && !M.testBit j) = false from by
                      cases hx : U.testBit j
                      · rfl
                      · cases hy : M.testBit j
                        · exact absurd ⟨hx, hy⟩ hgo
                        · rfl)
                    have HS2 := Lib.hid (show (sl (j + 1) fun i => U.testBit i && !M.testBit i) = (sl j fun i => U.testBit i && !M.testBit i) from by rw [HS.out, HGO.out]; simp)
                    clear hgo
                    generalize (sl j fun i => U.testBit i && !M.testBit i) = L at *
                    cases hb : U.testBit j
                    · rw [hb] at cu
                      clear hb
                      go_wp2_with fail
                      go_roundw
                      case rel => exact ⟨j + 1, aW, cW, by omega, by go_num, by rw [HS2.out], HN.out.1, HN.out.2.1, HN.out.2.2.1, by rw [HS2.out]; exact HN.out.2.2.2⟩
                      case measure => simp [intOf]; omega
                    · have hmb : M.testBit j = true := by have := HGO.out; rw [hb] at this; simpa using this
                      rw [hb] at cu
                      rw [hmb] at cm
                      clear hb hmb
                      go_wp2_with fail
                      go_roundw
                      case rel => exact ⟨j + 1, aW, cW, by omega, by go_num, by rw [HS2.out], HN.out.1, HN.out.2.1, HN.out.2.2.1, by rw [HS2.out]; exact HN.out.2.2.2⟩
                      case measure => simp [intOf]; omega
                · obtain rfl : j = n := by omega
                  have hjj : ¬ (j : Int) < (j : Int) := by omega
                  have HPL := Lib.hid (HQ.out.rows hkp hub hmb)
                  have hb0 : bp ≠ 0 := by have := HQ.out.pw.nb; omega
                  have hbz : bp < wo.heap.size := HQ.out.pw.page.blk.lt
                  have hzw : z ≤ wr.heap.size := HPL.out.zz
                  have HGL := Lib.hid (show bl (U &&& (4294967295 - M)) = sl j fun i => U.testBit i && !M.testBit i from by
                    unfold bl
                    rw [sl_short hn2 (fun i hi => by
                      rw [andn_bit U M i HQ.out.pw.page.hU HQ.out.pw.page.hM]
                      cases hx : U.testBit i
                      · rfl
                      · exact absurd (HQ.out.pw.page.inU i hx) (by omega))]
                    exact sl_congr fun i _ => andn_bit U M i HQ.out.pw.page.hU HQ.out.pw.page.hM)
                  clear hkp how hub hmb
                  go_wp2_with fail
                  refine (sweep_any _ _ _ _ _ _ HPL.out.pw.page HPL.out.pw.tab hb0).mono ?_
                  unfold Swept
                  rw [HGL.out]
                  generalize (sl j fun i => U.testBit i && !M.testBit i) = L at *
                  rintro e w5 ⟨a5, l5, w1, rfl, hp, ho, hk1, hs1, hb1⟩
                  have H5 := Lib.hid (show PL w w5 bp bu bm z z c j (U &&& M) 0 (U &&& M).testBit (Nat.testBit 0) from (HPL.out.sweep hw0 hp hk1 hs1 hb1).congr (fun i hi => by simp [hi, Nat.testBit_and]) (fun i hi => by simp [hi]))
                  have HBK := Lib.hid (Book.BookOk.ints (w := w1) (w' := w5) (b := z) (z := z) (A := a5) (c := l5) (xs := ints L) (HPL.out.book.kept hk1 (fun k e => by subst e; exact HQ.out.zp)) (by omega) hb1 (by rw [ints_len, hs1]; exact ho) (by rw [ints_len]; omega))
                  have HW5 := Lib.hid (own_block (w' := w5) HO.out fun q e => by
                    have h1 := HO.out.lt q e
                    exact (hb1.block q (by omega)).trans (hk1.block q h1.2 (by omega)))
                  have HS5 := Lib.hid ho
                  clear hp ho hk1 hs1 hb1
                  dsimp only
                  rw [ints_len] at HBK
                  go_wp2_with fail
                  refine HBK.out.mono ?_
                  rintro e w6 ⟨rfl, hk6, hki6, hbk6⟩
                  have H6 := Lib.hid (H5.out.told hk6 hbk6)
                  have HA := Lib.hid (show Book.RI w6 w6.heap.size a5 L.length l5 (ints L) from ⟨ints_len _, Reads.of_own (hki6 _ _ _ _ HS5.out)⟩)
                  have HB := Lib.hid (show Book.RI w6 w6.heap.size aW L.length cW (ints L) from ⟨ints_len _, Reads.of_own (hki6 _ _ _ _ HW5.out)⟩)
                  clear hk6 hki6 hbk6
                  dsimp only
                  go_wp2_with fail
                  refine (Book.same_yes _ HA.out HB.out).mono ?_
                  rintro e w7 ⟨rfl, d, rfl⟩
                  have H7 := Lib.hid (H6.out.drewN d)
                  dsimp only
                  go_wp2_with fail
                  go_meet
                  exact ⟨_, _, H7.out⟩
          case rest =>
            obtain ⟨U1, M1, hpq⟩ := hcut
            have HQ1 := Lib.hid (show PL w wc bp bu bm z z c n U1 M1 U1.testBit M1.testBit from hpq)
            clear hpq HQ hs0 hs1
            have HI0 := Lib.hid (info_parts infoI)
            go_wp2_with fail
            obtain ⟨wo, rfl⟩ : ∃ wo : World, wo = wc := ⟨_, rfl⟩
            go_loopw [25, 26] (fun q i wx => ∃ (j : Nat) (aA : Option Addr) (cA : Nat), j ≤ n ∧ i = .int .i64 (j : Int) ∧ q = .slice aA (sl j U1.testBit).length cA ∧ Below wo.heap.size wo wx ∧
              wx.ownsRow wo.heap.size 3 1 (.slice aA (sl j U1.testBit).length cA) (sl j U1.testBit).length (nats (sl j U1.testBit))) (fun _ i _ => n - (intOf i).toNat)
            case atStart => exact ⟨0, none, 0, Nat.zero_le _, rfl, rfl, Below.refl _ _, World.ownsRow_nil _ _ _ _⟩
            case round =>
              obtain ⟨j, aA, cA, hj, rfl, rfl, hbe, how⟩ := hrel
              have HE := Lib.hid (HQ1.out.call hbe)
              have HBE := Lib.hid hbe
              have HO := Lib.hid how
              have hz := hbe.size
              clear hbe how
              have hll : (sl j U1.testBit).length ≤ 32 := by have := sl_len j U1.testBit; omega
              by_cases hjn : j < n
              · obtain ⟨cu, fu⟩ := bcf_cell HE.out.ub hjn
                have hj1 : (0 : Int) ≤ (j : Int) := by omega
                have hj2 : (j : Int) < (n : Int) := by omega
                have HS := Lib.hid (sl_succ j U1.testBit)
                cases hb : U1.testBit j
                · as_aux_lemma =>
                    rw [hb] at cu HS
                    clear hb
                    have HS2 := Lib.hid (show sl (j + 1) U1.testBit = sl j U1.testBit from by rw [HS.out]; simp)
                    generalize sl j U1.testBit = L at *
                    go_wp2_with fail
                    go_roundw
                    case rel => exact ⟨j + 1, aA, cA, by omega, by go_num, by rw [HS2.out], HBE.out, by rw [HS2.out]; exact HO.out⟩
                    case measure => simp [intOf]; omega
                · as_aux_lemma =>
                    rw [hb] at cu HS
                    clear hb
                    generalize sl j U1.testBit = L at *
                    go_wp2_with (first
                      | (at_builtin; go_loud (refine wpList_app _ rfl _ _ 32 rfl wo.heap.size 3 HI0.out.choose (.int .i64 0) 1 8 Tryd.underlying32 HI0.out.choose_spec.1 HI0.out.choose_spec.2.1 HI0.out.choose_spec.2.2.1 HI0.out.choose_spec.2.2.2 rfl (by decide) _ _ _ rfl (HO.out.alloc _) (wr.heap.size + 1) _ 1 1 [.int .i64 (j : Int)] rfl (Blk.reads (Blk.new wr _ _) (by simp) rfl rfl (by decide)) ?g1 ?g2 ?g3 ?g4 ?_))
                      | fail)
                    case g1 => first | rfl | (intro u hu; simp at hu; subst hu; rfl)
                    case g2 => first | omega | (unfold maxLen; omega)
                    case g3 => omega
                    case g4 => first | omega | (simp; omega)
                    intro a' c' w2 ho2 hg2 hat2
                    have HO2 := Lib.hid (show w2.ownsRow wo.heap.size 3 1 (.slice a' (L ++ [j]).length c') (L ++ [j]).length (nats (L ++ [j])) from by simpa [nats, ints] using ho2)
                    have HW2 := Lib.hid (show Below wo.heap.size wo w2 from (fresh_alloc HBE.out _).grown hg2 (by simp; omega) (fun k hk => (HO.out.lt k hk).1))
                    have HLL := Lib.hid (show (L ++ [j]).length = L.length + 1 by simp)
                    clear ho2 hg2 hat2 cu fu
                    go_wp2_with fail
                    go_roundw
                    case rel => exact ⟨j + 1, a', c', by omega, by go_num, by rw [HS.out]; simp, HW2.out, by rw [HS.out]; simpa using HO2.out⟩
                    case measure => simp [intOf]; omega
              · obtain rfl : j = n := by omega
                have hjj : ¬ (j : Int) < (j : Int) := by omega
                have HGL := Lib.hid (show bl U1 = sl j U1.testBit from by
                  unfold bl
                  rw [sl_short hn2 (fun i hi => by
                    cases hx : U1.testBit i
                    · rfl
                    · exact absurd (HE.out.pw.page.inU i hx) (by omega))])
                go_wp2_with fail
                refine (all_any _ _ _ _ _ _ HE.out.pw.page HE.out.pw.tab).mono ?_
                rw [HGL.out]
                generalize sl j U1.testBit = L at *
                rintro e w5 ⟨a5, l5, rfl, ho, hb1⟩
                have H5 := Lib.hid (HE.out.call hb1)
                have HBK := Lib.hid (Book.BookOk.ints (w := wr) (w' := w5) (b := z) (z := z) (A := a5) (c := l5) (xs := ints L) HE.out.book HE.out.zz hb1 (by rw [ints_len]; exact ho) (by rw [ints_len]; omega))
                have HW5 := Lib.hid (own_block (w' := w5) HO.out fun q e => hb1.block q (HO.out.lt q e).2)
                have HS5 := Lib.hid ho
                clear ho hb1 HE HO HBE
                dsimp only
                rw [ints_len] at HBK
                go_wp2_with fail
                refine HBK.out.mono ?_
                rintro e w6 ⟨rfl, hk6, hki6, hbk6⟩
                have H6 := Lib.hid (H5.out.told hk6 hbk6)
                have HA := Lib.hid (show Book.RI w6 w6.heap.size a5 L.length l5 (ints L) from ⟨ints_len _, Reads.of_own (hki6 _ _ _ _ HS5.out)⟩)
                have HB := Lib.hid (show Book.RI w6 w6.heap.size aA L.length cA (ints L) from ⟨ints_len _, Reads.of_own (hki6 _ _ _ _ HW5.out)⟩)
                clear hk6 hki6 hbk6 HS5 HW5 HBK
                dsimp only
                go_wp2_with fail
                refine (count_any _ _ _ _ _ _ H6.out.pw.page).mono ?_
                rw [HGL.out]
                rintro e w7 ⟨rfl, d, hw7⟩
                have H7 := Lib.hid (show PL w w7 bp bu bm z z c j U1 M1 U1.testBit M1.testBit from by rw [hw7]; exact H6.out.drewN d)
                have HA7 := Lib.hid (show Book.RI w7 w6.heap.size a5 L.length l5 (ints L) from by rw [hw7]; exact HA.out)
                have HB7 := Lib.hid (show Book.RI w7 w6.heap.size aA L.length cA (ints L) from by rw [hw7]; exact HB.out)
                clear hw7 H6 HA HB H5
                dsimp only
                go_upto_region 62 with (fail)
                go_cut [16] from 233 to 239 (fun p wx => p = .bool (inb j a) ∧ wx = w7)
                case first =>
                  rcases inb_cases j a with ⟨h1, q, rfl, h2⟩ | ⟨h1, h2⟩
                  · have HI := Lib.hid h1
                    have h3 : (q : Int) < (j : Int) := by omega
                    have h4 : (0 : Int) ≤ (q : Int) := by omega
                    clear h1
                    go_wp2_with fail
                    go_meet
                    exact ⟨by rw [HI.out], rfl⟩
                  · have HI := Lib.hid h1
                    clear h1
                    by_cases h3 : a < 0
                    · clear h2
                      go_wp2_with fail
                      go_meet
                      exact ⟨by rw [HI.out], rfl⟩
                    · have h4 : (j : Int) ≤ a := by omega
                      have h5 : 0 ≤ a := by omega
                      have h6 : ¬ a < (j : Int) := by omega
                      clear h2 h3
                      go_wp2_with fail
                      go_meet
                      exact ⟨by rw [HI.out], rfl⟩
                case rest =>
                  obtain ⟨rfl, rfl⟩ := hcut
                  have hl1 : (L.length : Int) ≤ 32 := by omega
                  rcases inb_cases j a with ⟨h1, q, rfl, h2⟩ | ⟨h1, h2⟩
                  · as_aux_lemma =>
                      have h3 : (q : Int) < (j : Int) := by omega
                      have h4 : (0 : Int) ≤ (q : Int) := by omega
                      have HU := Lib.hid (at_nat (U := U1) (k := q))
                      have HM := Lib.hid (at_nat (U := M1) (k := q))
                      go_wp2_with fail
                      refine (Book.same_yes _ HA7.out HB7.out).mono ?_
                      rintro e w8 ⟨rfl, d8, rfl⟩
                      have H8 := Lib.hid (H7.out.drewN d8)
                      obtain ⟨cu, fu⟩ := bcf_cell H8.out.ub h2
                      obtain ⟨cm, fm⟩ := bcf_cell H8.out.mb h2
                      dsimp only
                      go_wp2_with fail
                      refine (class_any _ _ _ _ _ _ H8.out.pw.page).mono ?_
                      rintro e w9 ⟨rfl, rfl⟩
                      dsimp only
                      go_wp2_with fail
                      refine (used_any _ _ _ _ _ _ _ H8.out.pw.page).mono ?_
                      rw [HU.out]
                      rintro e w9 ⟨rfl, rfl⟩
                      dsimp only
                      generalize U1.testBit q = ub at *
                      go_wp2_with fail
                      refine (marked_any _ _ _ _ _ _ _ H8.out.pw.page).mono ?_
                      rw [HM.out]
                      rintro e w9 ⟨rfl, rfl⟩
                      dsimp only
                      generalize M1.testBit q = mb at *
                      go_wp2_with fail
                      go_roundw
                      case rel => exact ⟨k + 1, U1, M1, by omega, by go_num, H8.out⟩
                      case measure => simp [intOf]; omega
                  · as_aux_lemma =>
                      have HU := Lib.hid (show at_ U1 a = false ∧ at_ M1 a = false from by
                        constructor
                        · rcases at_cases H7.out.pw.page.inU a with ⟨_, h⟩ | ⟨j', rfl, h, _⟩
                          · exact h
                          · omega
                        · rcases at_cases (U := M1) (n := j) (fun i hi => H7.out.pw.page.inU i (H7.out.pw.page.inM i hi)) a with ⟨_, h⟩ | ⟨j', rfl, h, _⟩
                          · exact h
                          · omega)
                      clear h2
                      go_wp2_with fail
                      refine (Book.same_yes _ HA7.out HB7.out).mono ?_
                      rintro e w8 ⟨rfl, d8, rfl⟩
                      have H8 := Lib.hid (H7.out.drewN d8)
                      dsimp only
                      go_wp2_with fail
                      refine (class_any _ _ _ _ _ _ H8.out.pw.page).mono ?_
                      rintro e w9 ⟨rfl, rfl⟩
                      dsimp only
                      go_wp2_with fail
                      refine (used_any _ _ _ _ _ _ _ H8.out.pw.page).mono ?_
                      rw [HU.out.1]
                      rintro e w9 ⟨rfl, rfl⟩
                      dsimp only
                      go_wp2_with fail
                      refine (marked_any _ _ _ _ _ _ _ H8.out.pw.page).mono ?_
                      rw [HU.out.2]
                      rintro e w9 ⟨rfl, rfl⟩
                      dsimp only
                      go_wp2_with fail
                      go_roundw
                      case rel => exact ⟨k + 1, U1, M1, by omega, by go_num, H8.out⟩
                      case measure => simp [intOf]; omega
      · obtain rfl : k = m := by omega
        have hkk : ¬ (k : Int) < (k : Int) := by omega
        as_aux_lemma =>
          go_wp2_with fail
          refine (take_nil _).mono ?_
          rintro e w3 ⟨rfl, rfl⟩
          dsimp only
          go_wp2_with fail
          refine (count_nil _).mono ?_
          rintro e w3 ⟨rfl, rfl⟩
          dsimp only
          go_wp2_with fail
          refine (class_nil _).mono ?_
          rintro e w3 ⟨rfl, rfl⟩
          dsimp only
          go_wp2_with fail
          refine (free_nil _ _).mono ?_
          rintro e w3 ⟨rfl, rfl⟩
          dsimp only
          go_wp2_with fail
          refine (used_nil _ _).mono ?_
          rintro e w3 ⟨rfl, rfl⟩
          dsimp only
          go_wp2_with fail
          refine (mark_nil _ _).mono ?_
          rintro e w3 ⟨rfl, rfl⟩
          dsimp only
          go_wp2_with fail
          refine (marked_nil _ _).mono ?_
          rintro e w3 ⟨rfl, rfl⟩
          dsimp only
          go_wp2_with fail
          refine (sweep_nil _).mono ?_
          rintro e w3 ⟨rfl, rfl⟩
          dsimp only
          go_wp2_with fail
          refine (all_nil _).mono ?_
          rintro e w3 ⟨rfl, rfl⟩
          dsimp only
          go_wp2_with fail
          refine (HQ.out.book.apart HQ.out.zz).mono ?_
          rintro e w3 ⟨rfl, hk3⟩
          have HE := Lib.hid (show Below w.heap.size w w3 from HQ.out.pw.bel.trans (hk3.below HQ.out.pw.bel.size (fun i hi e => by have := HQ.out.pw.nb; have := HQ.out.zp; omega)))
          clear hk3
          dsimp only
          go_wp2_with fail
          go_ret
          exact ⟨rfl, HE.out⟩
theorem walk (c : Int) (A : Option Addr) (n cc : Nat) (l : List (Value × Value)) (a : Int) (w : World) (hT : Tab w) (_w0 : (Lit.int .i64 c).wf = true) (hl : l.length = n)
    (wl : ∀ q ∈ l, (∃ z, q.1 = .int .i64 z ∧ (Lit.int .i64 z).wf = true) ∧ (∃ z, q.2 = .int .i64 z ∧ (Lit.int .i64 z).wf = true)) (hR : Reads w w.heap.size 2 A n cc (pairCells l)) (_w2 : (Lit.int .i64 a).wf = true) :
    Calls Tryd.prog 5 #[.int .i64 c, .slice A n cc, .int .i64 a] w fun e w' => e = .returned (.bool true) ∧ Below w.heap.size w w' := by
  by_cases h : 150 < n
  · exact early c A n cc a w hT h
  · by_cases h0 : Cls.csz c = 0
    · refine none_ c A n cc a w hT (by omega) h0 ?_
      rcases Cls.csz_cases c with h1 | h1 | rfl | rfl | rfl | rfl | rfl | rfl | rfl | rfl
      · exact Cls.csl_out (.inl h1)
      · exact Cls.csl_out (.inr h1)
      all_goals (exact absurd h0 (by decide))
    · obtain ⟨k, s, h1, h2, h3, h4, h5, h6⟩ := csz_csl c h0
      exact core c A n cc l a k s w hT hl wl hR (by omega) h1 h2 h3 h4 h5 h6
end Go.Proofs.YtpdleckflcangaaDoor.PagePlays
