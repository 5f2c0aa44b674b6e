/- The walk of besomlaw13.StackPlays: it returns true, and writes nothing that was there. -/
import Derived.Test.YtpdleckflcangaaStkQ
namespace Go.Proofs.Ytpdleckflcangaa.StackPlays
open Go.RowKit Stk
set_option linter.unusedSimpArgs false
set_option linter.unusedVariables false

set_option maxRecDepth 100000 in
theorem early (p q r s : Int) (A : Option Addr) (n c : Nat) (w : World) (h : 60 < n ∨ 300 < q) :
    Calls Try.prog 10 #[.int .i64 p, .int .i64 q, .slice A n c, .int .i64 r, .int .i64 s] w fun e w' => e = .returned (.bool true) ∧ Below w.heap.size w w' := by
  by_cases h0 : 60 < n
  · have h1 : (60 : Int) < (n : Int) := by omega
    clear h
    go_enter Try.func10, Try.ntmps10
    go_wp2_with fail
    refine (alive _).mono ?_
    rintro e w1 ⟨rfl, hb⟩
    dsimp only
    go_wp2_with fail
    go_ret
    exact ⟨rfl, hb⟩
  · have h1 : ¬ (60 : Int) < (n : Int) := by omega
    have h2 : 300 < q := by omega
    clear h
    go_enter Try.func10, Try.ntmps10
    go_wp2_with fail
    refine (alive _).mono ?_
    rintro e w1 ⟨rfl, hb⟩
    dsimp only
    go_wp2_with fail
    go_ret
    exact ⟨rfl, hb⟩
set_option maxRecDepth 100000 in
set_option maxHeartbeats 40000000 in
theorem core (p q r s : Int) (A : Option Addr) (n c : Nat) (l : List (Int × Int × Int)) (w : World) (hl : l.length = n) (hR : Reads w w.heap.size 3 A n c (tripCells l)) (hn : n ≤ 60) (hq : q ≤ 300) :
    Calls Try.prog 10 #[.int .i64 p, .int .i64 q, .slice A n c, .int .i64 r, .int .i64 s] w fun e w' => e = .returned (.bool true) ∧ Below w.heap.size w w' := by
  have HR := Lib.hid hR
  have HL := Lib.hid hl
  clear hR hl
  have h1 : ¬ (60 : Int) < (n : Int) := by omega
  have h2 : ¬ (300 : Int) < q := by omega
  have hmk := Lib.hid (fun (W : World) (n : Nat) (hn : n ≤ 4096) => run_make_row' (P := Try.prog) 46 3 (.int .i64 0) 8 Try.underlying46 infoI rfl .i64 .i64 n (by omega) (by omega) W)
  obtain ⟨N, hN⟩ : ∃ N : Nat, (min (max q 1) 4096).toNat = N := ⟨_, rfl⟩
  obtain ⟨B, hB⟩ : ∃ B : Int, 1073741824 + min (max p 0) 100000 * 8192 = B := ⟨_, rfl⟩
  have hN1 : 1 ≤ N ∧ N ≤ 300 ∧ ((q < 1 ∧ N = 1) ∨ q = (N : Int)) := by omega
  have hB1 : 0 ≤ B ∧ B ≤ 4000000000 := by omega
  go_enter Try.func10, Try.ntmps10
  go_wp2_with fail
  refine (alive _).mono ?_
  rintro e w0 ⟨rfl, hb⟩
  dsimp only
  go_wp2_with fail
  refine (new_any _ _ _).mono ?_
  rw [hN, hB]
  rintro e w1 ⟨rfl, hS, hb1⟩
  have HB0 := Lib.hid hb.size
  have HS := Lib.hid hS
  have HW := Lib.hid (fresh_call hb hb1)
  have HN := Lib.hid hN1
  have HB := Lib.hid hB
  have HB1 := Lib.hid hB1
  clear hS hb hb1 hN1 hB hN hB1
  dsimp only
  go_upto_region 6 with (fail)
  go_cut [1] from 54 to 56 (fun m wx => m = .int .i64 (N : Int) ∧ wx = w1)
  case first =>
    rcases HN.out.2.2 with ⟨h3, rfl⟩ | rfl
    · go_wp2_with fail
      go_meet
      exact ⟨rfl, rfl⟩
    · have h4 : ¬ ((N : Int) < 1) := by have := HN.out.1; omega
      have h5 : ¬ (4096 : Int) < (N : Int) := by have := HN.out.2.1; omega
      go_wp2_with fail
      all_goals
        go_meet
        first | exact ⟨rfl, rfl⟩ | exact ⟨by congr 1; have := HN.out.1; have := HN.out.2.1; omega, rfl⟩
  case rest =>
    obtain ⟨rfl, rfl⟩ := hcut
    go_upto_region 7 with (fail)
    go_cut [12] from 57 to 61 (fun m wx => m = .int .i64 B ∧ wx = wc)
    case first =>
      have hbb := HB.out
      by_cases h3 : p < 0
      · obtain rfl : B = 1073741824 := by omega
        clear hbb
        go_wp2_with fail
        go_meet
        exact ⟨rfl, rfl⟩
      · by_cases h4 : 100000 < p
        · obtain rfl : B = 1892941824 := by omega
          clear hbb
          go_wp2_with fail
          go_meet
          exact ⟨rfl, rfl⟩
        · obtain rfl : B = 1073741824 + p * 8192 := by omega
          have hw1 : IntKind.i64.wrap (p * 8192) = p * 8192 := IntWalk.i64_in _ (by omega)
          have hw2 : IntKind.i64.wrap (1073741824 + p * 8192) = 1073741824 + p * 8192 := IntWalk.i64_in _ (by omega)
          clear hbb
          go_wp2_with fail
          go_meet
          exact ⟨rfl, rfl⟩
    case rest =>
      obtain ⟨rfl, rfl⟩ := hcut
      have hm := hmk.out wc N (by have := HN.out.2.1; omega)
      simp only [made_cells] at hm
      have HP := Lib.hid (show PS w (wc.alloc (.cells (cells (List.replicate N 0)) 3)) (w0.heap.size + 1) w0.heap.size wc.heap.size B (List.replicate N 0) from
        ⟨HS.out.below ((Below.refl _ _).alloc (Nat.le_refl _) _), Blk.new wc _ _, Nat.ne_of_lt HS.out.2.1.lt, Nat.ne_of_lt HS.out.1.lt, Nat.le_succ_of_le HB0.out, HB0.out, HW.out.size, HB1.out, fresh_alloc HW.out _⟩)
      have HLN := Lib.hid (show (List.replicate N (0 : Int)).length = N by simp)
      go_wp2_with fail
      go_loopw [11, 12, 13, 14] (fun sp bs ro i wr => ∃ (k b g gw : Nat) (base : Int) (ws : List Int), k ≤ n ∧ sp = .pointer (some ⟨b, 0, none⟩) ∧ bs = .int .i64 base ∧ ro = .slice (some ⟨gw, 0, none⟩) ws.length ws.length ∧ i = .int .i64 k ∧ PS w wr b g gw base ws) (fun _ _ _ i _ => n - (intOf i).toNat)
      case atStart => exact ⟨0, _, _, _, _, _, Nat.zero_le _, rfl, rfl, by rw [HLN.out], rfl, HP.out⟩
      case round =>
        clear HP HLN hm HS HW HB0 HB HB1 HN
        obtain ⟨k, b, g, gw, base, ws, hk, rfl, rfl, rfl, rfl, hps⟩ := hrel
        have H := Lib.hid hps
        clear hps
        by_cases hlt : k < n
        · obtain ⟨⟨kind, N, V⟩, hxk⟩ : ∃ x, l[k]? = some x := ⟨_, List.getElem?_eq_getElem (by have := HL.out; omega)⟩
          obtain ⟨sb, off, rfl, hsb, hs0, hs1, hs2⟩ := (HR.out.below H.out.bel).trip hxk
          dsimp only at hs0 hs1 hs2
          have hsz : sb < wr.heap.size := Nat.lt_of_lt_of_le hsb H.out.bel.size
          have hk0 : (0 : Int) ≤ (k : Int) := by omega
          have hkn : (k : Int) < (n : Int) := by omega
          have HQ := Lib.hid (H.out.pq #[.int .i64 kind, .int .i64 N, .int .i64 V])
          clear hxk
          go_upto_block 2 with (fail)
          generalize wr.alloc (.cells #[.int .i64 kind, .int .i64 N, .int .i64 V] 59) = w2 at *
          generalize wr.heap.size = bo at *
          clear hs0 hs1 hs2 hsz H
          go_cut [11, 12, 13, 16, 17, 18, 19, 20, 22, 23, 24] from 64 to 331 (fun sp bs ro _ _ _ _ _ _ _ _ wx => ∃ (b g gw : Nat) (base : Int) (ws : List Int), sp = .pointer (some ⟨b, 0, none⟩) ∧ bs = .int .i64 base ∧ ro = .slice (some ⟨gw, 0, none⟩) ws.length ws.length ∧ PS w wx b g gw base ws)
          case first =>
            have hl := HQ.out.st.2.2.2
            have hl0 := HQ.out.st.2.2.1
            obtain ⟨o1, o2, o3, o4, o5, o6⟩ := HQ.out.o.three
            by_cases e1 : kind = 1
            · subst e1
              by_cases hN0 : 0 ≤ N
              · by_cases hN1 : N < (ws.length : Int)
                · as_aux_lemma =>
                    obtain ⟨j, rfl⟩ : ∃ j : Nat, N = (j : Int) := ⟨N.toNat, by omega⟩
                    have hj : j < ws.length := by omega
                    go_wp2_with fail
                    refine (store_yes _ _ _ _ j V _ HQ.out.st hj).mono ?_
                    rintro e w3 ⟨rfl, hs, hg⟩
                    have H3 := Lib.hid (HQ.out.stack hs hg (by simp))
                    clear HQ hs hg o1 o2 o3 o4 o5 o6
                    obtain ⟨o1, o2, o3, o4, o5, o6⟩ := H3.out.o.three
                    obtain ⟨r1, r2⟩ := H3.out.rcell (j := j) hj
                    dsimp only
                    go_wp2_with fail
                    go_meet
                    exact ⟨_, _, _, _, ws.set j V, rfl, rfl, by simp, (H3.out.put j V).done⟩
                · as_aux_lemma =>
                    have hN2 : (ws.length : Int) ≤ N := by omega
                    have HN3 := Lib.hid (show N < 0 ∨ (ws.length : Int) ≤ N from .inr hN2)
                    go_wp2_with fail
                    refine (store_no _ _ _ _ N V _ HQ.out.st HN3.out).mono ?_
                    rintro e w3 ⟨rfl, rfl⟩
                    dsimp only
                    go_wp2_with fail
                    go_meet
                    exact ⟨_, _, _, _, ws, rfl, rfl, rfl, HQ.out.done⟩
              · as_aux_lemma =>
                  have hN2 : N < 0 := by omega
                  have HN3 := Lib.hid (show N < 0 ∨ (ws.length : Int) ≤ N from .inl hN2)
                  go_wp2_with fail
                  refine (store_no _ _ _ _ N V _ HQ.out.st HN3.out).mono ?_
                  rintro e w3 ⟨rfl, rfl⟩
                  dsimp only
                  go_wp2_with fail
                  go_meet
                  exact ⟨_, _, _, _, ws, rfl, rfl, rfl, HQ.out.done⟩
            have b1 : (kind == 1) = false := by simpa using e1
            by_cases e2 : kind = 2
            · subst e2
              by_cases hft : max N 0 < min V ws.length
              · as_aux_lemma =>
                  obtain ⟨lo, hlo⟩ : ∃ lo : Nat, max N 0 = (lo : Int) := ⟨(max N 0).toNat, by omega⟩
                  obtain ⟨cn, hcn⟩ : ∃ cn : Nat, min V ws.length = (lo : Int) + (cn : Int) := ⟨(min V ws.length).toNat - lo, by omega⟩
                  have hcn0 : 0 < cn := by omega
                  have hfit : lo + cn ≤ ws.length := by omega
                  have hV : (lo : Int) + (cn : Int) ≤ V := by omega
                  have hV2 : V = (lo : Int) + (cn : Int) ∨ (ws.length : Int) = (lo : Int) + (cn : Int) := by omega
                  have hlN : (N < 0 ∧ lo = 0) ∨ N = (lo : Int) := by omega
                  have HC := Lib.hid (clear_yes b g base ws N V lo cn w2 HQ.out.st hlo hcn hcn0)
                  have HV2 := Lib.hid hV2
                  have HLN := Lib.hid hlN
                  clear hlo hcn hV2 hlN hft
                  go_wp2_with fail
                  refine HC.out.mono ?_
                  rintro e w3 ⟨rfl, hs, hg⟩
                  have H3 := Lib.hid (HQ.out.stack hs hg (clr_length _ _ _ hfit))
                  clear HQ HC hs hg o1 o2 o3 o4 o5 o6
                  obtain ⟨o1, o2, o3, o4, o5, o6⟩ := H3.out.o.three
                  dsimp only
                  go_upto_region 44 with (fail)
                  go_cut [17] from 192 to 194 (fun m wx => m = .int .i64 (lo : Int) ∧ wx = w3)
                  case first =>
                    rcases HLN.out with ⟨h3, rfl⟩ | rfl
                    · go_wp2_with fail
                      go_meet
                      exact ⟨rfl, rfl⟩
                    · have h4 : ¬ ((lo : Int) < 0) := by omega
                      go_wp2_with fail
                      go_meet
                      exact ⟨rfl, rfl⟩
                  case rest =>
                    obtain ⟨rfl, rfl⟩ := hcut
                    clear o1 o2 o3 o4 o5 o6
                    go_wp2_with fail
                    go_loopw [17] (fun i wx => ∃ j : Nat, j ≤ cn ∧ i = .int .i64 ((lo : Int) + (j : Int)) ∧ PQ w wx b g gw base (clr ws lo cn) (clr ws lo j) bo #[.int .i64 2, .int .i64 N, .int .i64 V]) (fun i _ => lo + cn - (intOf i).toNat)
                    case atStart => exact ⟨0, Nat.zero_le _, by simp, by rw [clr_zero _ _ (by omega)]; exact H3.out⟩
                    case round =>
                      obtain ⟨j, hj, rfl, hq⟩ := hrel
                      have H4 := Lib.hid hq
                      clear hq
                      obtain ⟨o1, o2, o3, o4, o5, o6⟩ := H4.out.o.three
                      by_cases hjl : j < cn
                      · have q1 : (lo : Int) + (j : Int) < V := by omega
                        have q2 : (lo : Int) + (j : Int) < (ws.length : Int) := by omega
                        have q3 : (0 : Int) ≤ (lo : Int) + (j : Int) := by omega
                        have q4 : ((lo : Int) + (j : Int)).toNat = lo + j := by omega
                        obtain ⟨r1, r2⟩ := H4.out.rcell (j := lo + j) (by rw [clr_length _ _ _ (by omega)]; omega)
                        have H5 := Lib.hid (H4.out.put (lo + j) 0)
                        have HST := Lib.hid (clr_step ws lo j (by omega))
                        go_wp2_with fail
                        go_roundw
                        case rel => exact ⟨j + 1, by omega, by go_num, by rw [← HST.out]; exact H5.out⟩
                        case measure => simp [intOf]; omega
                      · obtain rfl : j = cn := by omega
                        have HD := Lib.hid H4.out.done
                        have HLL := Lib.hid (clr_length ws lo j hfit)
                        rcases HV2.out with q | q
                        · have q1 : ¬ ((lo : Int) + (j : Int) < V) := by omega
                          clear q
                          go_wp2_with fail
                          go_meet
                          exact ⟨_, _, _, _, _, rfl, rfl, by rw [HLL.out], HD.out⟩
                        · by_cases q1 : (lo : Int) + (j : Int) < V
                          · have q2 : ¬ ((lo : Int) + (j : Int) < (ws.length : Int)) := by omega
                            clear q
                            go_wp2_with fail
                            go_meet
                            exact ⟨_, _, _, _, _, rfl, rfl, by rw [HLL.out], HD.out⟩
                          · clear q
                            go_wp2_with fail
                            go_meet
                            exact ⟨_, _, _, _, _, rfl, rfl, by rw [HLL.out], HD.out⟩
              · as_aux_lemma =>
                  obtain ⟨lo, hlo⟩ : ∃ lo : Nat, max N 0 = (lo : Int) := ⟨(max N 0).toNat, by omega⟩
                  have hlN : (N < 0 ∧ lo = 0) ∨ N = (lo : Int) := by omega
                  have hV2 : V ≤ (lo : Int) ∨ (ws.length : Int) ≤ (lo : Int) := by omega
                  have HC := Lib.hid (clear_no b g base ws N V w2 HQ.out.st hft)
                  have HV2 := Lib.hid hV2
                  have HLN := Lib.hid hlN
                  clear hlo hV2 hlN hft
                  go_wp2_with fail
                  refine HC.out.mono ?_
                  rintro e w3 ⟨rfl, rfl⟩
                  dsimp only
                  go_upto_region 44 with (fail)
                  go_cut [17] from 192 to 194 (fun m wx => m = .int .i64 (lo : Int) ∧ wx = w2)
                  case first =>
                    rcases HLN.out with ⟨h3, rfl⟩ | rfl
                    · go_wp2_with fail
                      go_meet
                      exact ⟨rfl, rfl⟩
                    · have h4 : ¬ ((lo : Int) < 0) := by omega
                      go_wp2_with fail
                      go_meet
                      exact ⟨rfl, rfl⟩
                  case rest =>
                    obtain ⟨rfl, rfl⟩ := hcut
                    have HD := Lib.hid HQ.out.done
                    go_wp2_with fail
                    go_loop [17] (fun i => i = .int .i64 (lo : Int)) (fun i => 0)
                    case atStart => rfl
                    case round =>
                      obtain rfl := hrel
                      by_cases q1 : (lo : Int) < V
                      · have q2 : ¬ ((lo : Int) < (ws.length : Int)) := by have := HV2.out; omega
                        go_wp2_with fail
                        go_meet
                        exact ⟨_, _, _, _, _, rfl, rfl, rfl, HD.out⟩
                      · go_wp2_with fail
                        go_meet
                        exact ⟨_, _, _, _, _, rfl, rfl, rfl, HD.out⟩
            have b2 : (kind == 2) = false := by simpa using e2
            go_upto_if 78 with (fail)
            go_cut [15] from 79 to 79 (fun op wx => op = .pointer (some ⟨bo, 0, none⟩) ∧ ∃ V' : Int, V' ≤ 400 ∧ PQ w wx b g gw base ws ws bo #[.int .i64 kind, .int .i64 N, .int .i64 V'])
            case first =>
              by_cases hv : 400 < V
              · have H5 := Lib.hid (HQ.out.oset 2 (.int .i64 400))
                go_wp2_with fail
                go_meet
                exact ⟨rfl, 400, by omega, H5.out⟩
              · go_wp2_with fail
                go_meet
                exact ⟨rfl, V, by omega, HQ.out⟩
            case rest =>
              obtain ⟨rfl, V', hV', hq⟩ := hcut
              clear HQ o1 o2 o3 o4 o5 o6
              have H1 := Lib.hid hq
              clear hq
              obtain ⟨o1, o2, o3, o4, o5, o6⟩ := H1.out.o.three
              obtain ⟨n1, hn1⟩ : ∃ n1 : Nat, (min (max V' 1) 4096).toNat = n1 := ⟨_, rfl⟩
              obtain ⟨B1, hB1⟩ : ∃ B1 : Int, 1073741824 + min (max N 0) 100000 * 8192 = B1 := ⟨_, rfl⟩
              have hcp := copy_any b g base ws N V' wc H1.out.st
              rw [hn1, hB1] at hcp
              have HCP := Lib.hid hcp
              have HN1 := Lib.hid (show 1 ≤ n1 ∧ n1 ≤ 400 ∧ ((V' < 1 ∧ n1 = 1) ∨ V' = (n1 : Int)) by omega)
              have HB1 := Lib.hid (show 0 ≤ B1 ∧ B1 ≤ 4000000000 by omega)
              have HBE := Lib.hid hB1
              have HLT := Lib.hid (show (b < wc.heap.size ∧ g < wc.heap.size ∧ gw < wc.heap.size ∧ bo < wc.heap.size) ∧ w.heap.size ≤ wc.heap.size from ⟨⟨H1.out.st.1.lt, H1.out.st.2.1.lt, H1.out.row.lt, H1.out.o.lt⟩, H1.out.bel.size⟩)
              clear hcp hn1 hB1
              go_wp2_with fail
              refine HCP.out.mono ?_
              rintro e w3 ⟨rfl, hT, hb3⟩
              have HT := Lib.hid (show PT w w3 b g gw base ws bo #[.int .i64 kind, .int .i64 N, .int .i64 V'] wc.heap.size B1 n1 from ⟨H1.out.call hb3, hT⟩)
              clear HCP H1 hT hb3 o1 o2 o3 o4 o5 o6
              generalize wc.heap.size = g2 at *
              obtain ⟨o1, o2, o3, o4, o5, o6⟩ := HT.out.q.o.three
              dsimp only
              go_upto_region 19 with (fail)
              go_cut [19] from 88 to 91 (fun m wx => m = .int .i64 (n1 : Int) ∧ wx = w3)
              case first =>
                rcases HN1.out.2.2 with ⟨h3, rfl⟩ | rfl
                · go_wp2_with fail
                  go_meet
                  exact ⟨rfl, rfl⟩
                · have h4 : ¬ ((n1 : Int) < 1) := by have := HN1.out.1; omega
                  have h5 : ¬ (4096 : Int) < (n1 : Int) := by have := HN1.out.2.1; omega
                  go_wp2_with fail
                  all_goals
                    go_meet
                    first | exact ⟨rfl, rfl⟩ | exact ⟨by congr 1; have := HN1.out.1; have := HN1.out.2.1; omega, rfl⟩
              case rest =>
                obtain ⟨rfl, rfl⟩ := hcut
                go_upto_region 20 with (fail)
                go_cut [20] from 92 to 97 (fun m wx => m = .int .i64 B1 ∧ wx = wc)
                case first =>
                  have hbb := HBE.out
                  by_cases h3 : N < 0
                  · obtain rfl : B1 = 1073741824 := by omega
                    clear hbb
                    go_wp2_with fail
                    go_meet
                    exact ⟨rfl, rfl⟩
                  · by_cases h4 : 100000 < N
                    · obtain rfl : B1 = 1892941824 := by omega
                      clear hbb
                      go_wp2_with fail
                      go_meet
                      exact ⟨rfl, rfl⟩
                    · obtain rfl : B1 = 1073741824 + N * 8192 := by omega
                      have hw1 : IntKind.i64.wrap (N * 8192) = N * 8192 := IntWalk.i64_in _ (by omega)
                      have hw2 : IntKind.i64.wrap (1073741824 + N * 8192) = 1073741824 + N * 8192 := IntWalk.i64_in _ (by omega)
                      clear hbb
                      go_wp2_with fail
                      go_meet
                      exact ⟨rfl, rfl⟩
                case rest =>
                  obtain ⟨rfl, rfl⟩ := hcut
                  clear o1 o2 o3 o4 o5 o6
                  obtain ⟨bb1, bb2⟩ := HB1.out
                  obtain ⟨cb1, cb2⟩ := HT.out.q.hb
                  go_wp2_with fail
                  have H6 := Lib.hid (HT.out.alloc (.cells #[.int .i64 s, .int .i64 (wrap64 (base + r)), .int .i64 base, .int .i64 (base + (ws.length : Int) - 1), .int .i64 (base + (ws.length : Int)), .int .i64 0] 3))
                  have HA := Lib.hid (show Blk (wc.alloc (.cells #[.int .i64 s, .int .i64 (wrap64 (base + r)), .int .i64 base, .int .i64 (base + (ws.length : Int) - 1), .int .i64 (base + (ws.length : Int)), .int .i64 0] 3)) wc.heap.size #[.int .i64 s, .int .i64 (wrap64 (base + r)), .int .i64 base, .int .i64 (base + (ws.length : Int) - 1), .int .i64 (base + (ws.length : Int)), .int .i64 0] 3 from Blk.new _ _ _)
                  obtain ⟨adrs, hadr⟩ : ∃ l : List Int, l = [s, wrap64 (base + r), base, base + (ws.length : Int) - 1, base + (ws.length : Int), 0] := ⟨_, rfl⟩
                  have HA2 := Lib.hid (show Blk (wc.alloc (.cells #[.int .i64 s, .int .i64 (wrap64 (base + r)), .int .i64 base, .int .i64 (base + (ws.length : Int) - 1), .int .i64 (base + (ws.length : Int)), .int .i64 0] 3)) wc.heap.size (cells adrs) 3 ∧ adrs.length = 6 from ⟨by subst hadr; exact HA.out, by subst hadr; rfl⟩)
                  clear HA hadr HT
                  generalize wc.alloc (.cells #[.int .i64 s, .int .i64 (wrap64 (base + r)), .int .i64 base, .int .i64 (base + (ws.length : Int) - 1), .int .i64 (base + (ws.length : Int)), .int .i64 0] 3) = w6 at *
                  generalize wc.heap.size = ba at *
                  generalize wrap64 (base + r) = ofr at *
                  go_loopw [22, 23, 114] (fun _ _ i wx => ∃ j : Nat, j ≤ 6 ∧ i = .int .i64 (j : Int) ∧ PT w wx b g gw base ws bo #[.int .i64 kind, .int .i64 N, .int .i64 V'] g2 B1 n1 ∧ Blk wx ba (cells adrs) 3) (fun _ _ i _ => 6 - (intOf i).toNat)
                  case atStart => exact ⟨0, Nat.zero_le _, rfl, H6.out, HA2.out.1⟩
                  case round =>
                    obtain ⟨j, hj, rfl, hpt, hadr⟩ := hrel
                    have HP := Lib.hid hpt
                    have HAD := Lib.hid hadr
                    clear hpt H6
                    by_cases hjl : j < 6
                    · have hjx : j < adrs.length := by have := HA2.out.2; omega
                      have ca := (hadr.cell j).trans (cells_get adrs j _ (List.getElem?_eq_getElem hjx))
                      generalize adrs[j] = x at *
                      clear hadr
                      have hj6 : (j : Int) < 6 := by omega
                      have hj0 : (0 : Int) ≤ (j : Int) := by omega
                      have hl1 : (ws.length : Int) ≤ 4096 := by omega
                      have hn1 : (1 : Int) ≤ (n1 : Int) := by have := HN1.out.1; omega
                      have hn2 : (n1 : Int) ≤ 400 := by have := HN1.out.2.1; omega
                      have HBB := Lib.hid HP.out.q.hb
                      by_cases ha : base ≤ x
                      · by_cases hb : x < base + (ws.length : Int)
                        · obtain ⟨m, hm⟩ : ∃ m : Nat, x = base + (m : Int) := ⟨(x - base).toNat, by omega⟩
                          have hml : m < ws.length := by omega
                          have HM := Lib.hid hm
                          by_cases hmn : m < n1
                          · as_aux_lemma =>
                              have s1 : x - base < (n1 : Int) := by omega
                              have s2 : ((B1 + (m : Int)) != (B1 + x - base)) = false := by simp; omega
                              clear hm
                              go_wp2_with fail
                              refine (moved_in _ _ _ _ _ _ _ _ m _ _ HP.out.t HP.out.q.st HB1.out HBB.out hml HM.out).mono ?_
                              rw [if_pos (by rw [cp_length]; omega)]
                              rintro e w7 ⟨rfl, d, rfl⟩
                              dsimp only
                              go_wp2_with fail
                              go_roundw
                              case rel => exact ⟨j + 1, by omega, by go_num, HP.out.drewN d, HAD.out.drewN d⟩
                              case measure => simp [intOf]; omega
                          · as_aux_lemma =>
                              have s1 : ¬ x - base < (n1 : Int) := by omega
                              clear hm
                              go_wp2_with fail
                              refine (moved_in _ _ _ _ _ _ _ _ m _ _ HP.out.t HP.out.q.st HB1.out HBB.out hml HM.out).mono ?_
                              rw [if_neg (by rw [cp_length]; omega)]
                              rintro e w7 ⟨rfl, d, rfl⟩
                              dsimp only
                              go_wp2_with fail
                              go_roundw
                              case rel => exact ⟨j + 1, by omega, by go_num, HP.out.drewN d, HAD.out.drewN d⟩
                              case measure => simp [intOf]; omega
                        · as_aux_lemma =>
                            have hb' : base + (ws.length : Int) ≤ x := by omega
                            have HM := Lib.hid (show x < base ∨ base + (ws.length : Int) ≤ x from .inr hb')
                            go_wp2_with fail
                            refine (moved_out _ _ _ _ _ _ _ _ _ _ HP.out.t HP.out.q.st HBB.out HM.out).mono ?_
                            rintro e w7 ⟨rfl, d, rfl⟩
                            dsimp only
                            go_wp2_with fail
                            go_roundw
                            case rel => exact ⟨j + 1, by omega, by go_num, HP.out.drewN d, HAD.out.drewN d⟩
                            case measure => simp [intOf]; omega
                      · as_aux_lemma =>
                          have ha' : x < base := by omega
                          have HM := Lib.hid (show x < base ∨ base + (ws.length : Int) ≤ x from .inl ha')
                          go_wp2_with fail
                          refine (moved_out _ _ _ _ _ _ _ _ _ _ HP.out.t HP.out.q.st HBB.out HM.out).mono ?_
                          rintro e w7 ⟨rfl, d, rfl⟩
                          dsimp only
                          go_wp2_with fail
                          go_roundw
                          case rel => exact ⟨j + 1, by omega, by go_num, HP.out.drewN d, HAD.out.drewN d⟩
                          case measure => simp [intOf]; omega
                    · as_aux_lemma =>
                        have hj6 : ¬ (j : Int) < 6 := by omega
                        clear hadr HAD HA2
                        have hn1 : (1 : Int) ≤ (n1 : Int) := by have := HN1.out.1; omega
                        have hn2 : (n1 : Int) ≤ 400 := by have := HN1.out.2.1; omega
                        go_wp2_with fail
                        refine (store_yes _ _ _ _ 0 (-99) _ HP.out.q.st hl0).mono ?_
                        rintro e w7 ⟨rfl, hs, hg⟩
                        have hm := hmk.out w7 n1 (by have := HN1.out.2.1; omega)
                        simp only [made_cells] at hm
                        have hrow := blk_grown HP.out.q.row hg HP.out.q.ne1.symm
                        have HR7 := Lib.hid (show Reads (w7.alloc (.cells (cells (List.replicate n1 0)) 3)) (gw + 1) 1 (some ⟨gw, 0, none⟩) ws.length ws.length (ws.map (.int .i64)) from Blk.reads (hrow.alloc _) (by omega) (by simp [cells]) (by simp) (by unfold maxLen; omega))
                        have HN7 := Lib.hid (show Blk (w7.alloc (.cells (cells (List.replicate n1 0)) 3)) w7.heap.size (cells (List.replicate n1 0)) 3 from Blk.new _ _ _)
                        have HS7 := Lib.hid hs
                        have HG7 := Lib.hid hg
                        clear hs hg hrow
                        dsimp only
                        go_wp2_with (first
                          | (refine wpList_cp _ rfl (.tmp 151) (.tmp 152) 46 46 rfl 3 Try.underlying46 infoS w7.heap.size 0 n1 n1 rfl (cells (List.replicate n1 0)) 3 HN7.out _ _ _ _ rfl (ws.map (.int .i64)) HR7.out (ints_oneCell _ _) (Nat.min ws.length n1) rfl ?d1 ?_)
                          | fail)
                        case d1 => rw [cells_size, List.length_replicate, Nat.zero_add]; exact Nat.min_le_right _ _
                        intro w8 hg8 hb8
                        have hg9 : Blk w8 w7.heap.size (cells (cp ws n1)) 3 := hg8.of_eq (cp_cells' ws n1)
                        have HF := Lib.hid (HP.out.swap HLT.out.1 HLT.out.2 HB1.out HS7.out HG7.out rfl hg9 hb8)
                        have HCL := Lib.hid (cp_length ws n1)
                        clear hg8 hg9 hb8 hm HR7 HN7 HS7 HG7
                        go_wp2_with fail
                        go_meet
                        exact ⟨_, _, _, _, _, rfl, rfl, by rw [HCL.out], HF.out⟩
          case rest =>
            clear HQ
            obtain ⟨b, g, gw, base, ws, rfl, rfl, rfl, hps⟩ := hcut
            have hl := hps.st.2.2.2
            have hl0 := hps.st.2.2.1
            obtain ⟨hb1, hb2⟩ := hps.hb
            have HB := Lib.hid hps.hb
            have H := Lib.hid hps
            clear hps
            have hl1 : (ws.length : Int) ≤ 4096 := by omega
            have hl2 : (0 : Int) < (ws.length : Int) := by omega
            go_wp2_with fail
            go_loop [25] (fun i => ∃ K : Int, -1 ≤ K ∧ K ≤ (ws.length : Int) + 1 ∧ i = .int .i64 K) (fun i => ((ws.length : Int) + 1 - (match i with | .int _ z => z | _ => 0)).toNat)
            case atStart => exact ⟨-1, by omega, by omega, rfl⟩
            case round =>
              obtain ⟨K, hK0, hK1, rfl⟩ := hrel
              by_cases hle : K ≤ (ws.length : Int)
              · go_upto_region 51 with (fail)
                go_cut [229] from 216 to 228 (fun m wx => ∃ B : Bool, m = .bool B ∧ wx = wc)
                case first =>
                  as_aux_lemma =>
                    by_cases s1 : 40 < K
                    · by_cases s2 : K < (ws.length : Int) - 2
                      · by_cases s3 : K = r
                        · have s4 : (K != r) = false := by simpa using s3
                          clear s3
                          go_wp2_with fail
                          go_meet
                          exact ⟨_, rfl, rfl⟩
                        · have s4 : (K != r) = true := by simpa using s3
                          clear s3
                          go_wp2_with fail
                          go_meet
                          exact ⟨_, rfl, rfl⟩
                      · go_wp2_with fail
                        go_meet
                        exact ⟨_, rfl, rfl⟩
                    · go_wp2_with fail
                      go_meet
                      exact ⟨_, rfl, rfl⟩
                case rest =>
                  obtain ⟨B, rfl, rfl⟩ := hcut
                  cases B
                  · by_cases hK : 0 ≤ K
                    · by_cases hKl : K < (ws.length : Int)
                      · as_aux_lemma =>
                          obtain ⟨m, rfl⟩ : ∃ m : Nat, K = (m : Int) := ⟨K.toNat, by omega⟩
                          have hm : m < ws.length := by omega
                          obtain ⟨r1, r2⟩ := H.out.rcell hm
                          have HX := Lib.hid (List.getElem?_eq_getElem hm)
                          generalize ws[m] = x at *
                          go_wp2_with fail
                          refine (load_yes _ _ _ _ m x _ H.out.st HX.out).mono ?_
                          rintro e w3 ⟨rfl, rfl⟩
                          dsimp only
                          go_wp2_with fail
                          refine (addr_yes _ _ _ _ m _ H.out.st hm HB.out).mono ?_
                          rintro e w3 ⟨rfl, rfl⟩
                          dsimp only
                          go_wp2_with fail
                          go_round
                          case rel => exact ⟨_, by omega, by omega, rfl⟩
                          case measure => simp; omega
                      · as_aux_lemma =>
                          have HN := Lib.hid (show K < 0 ∨ (ws.length : Int) ≤ K from .inr (by omega))
                          have hKm : (ws.length : Int) ≤ K := by omega
                          go_wp2_with fail
                          refine (load_no _ _ _ _ K _ H.out.st HN.out).mono ?_
                          rintro e w3 ⟨rfl, rfl⟩
                          dsimp only
                          go_wp2_with fail
                          refine (addr_no _ _ _ _ K _ H.out.st HN.out).mono ?_
                          rintro e w3 ⟨rfl, rfl⟩
                          dsimp only
                          go_wp2_with fail
                          go_round
                          case rel => exact ⟨_, by omega, by omega, rfl⟩
                          case measure => simp; omega
                    · as_aux_lemma =>
                        have HN := Lib.hid (show K < 0 ∨ (ws.length : Int) ≤ K from .inl (by omega))
                        have hKm : K < 0 := by omega
                        go_wp2_with fail
                        refine (load_no _ _ _ _ K _ H.out.st HN.out).mono ?_
                        rintro e w3 ⟨rfl, rfl⟩
                        dsimp only
                        go_wp2_with fail
                        refine (addr_no _ _ _ _ K _ H.out.st HN.out).mono ?_
                        rintro e w3 ⟨rfl, rfl⟩
                        dsimp only
                        go_wp2_with fail
                        go_round
                        case rel => exact ⟨_, by omega, by omega, rfl⟩
                        case measure => simp; omega
                  · as_aux_lemma =>
                      go_wp2_with fail
                      go_round
                      case rel => exact ⟨_, by omega, by omega, rfl⟩
                      case measure => simp; omega
              · have hKe : (ws.length : Int) < K := by omega
                clear hle
                by_cases ha : base ≤ s
                · by_cases hb : s < base + (ws.length : Int)
                  · as_aux_lemma =>
                      obtain ⟨m, hm⟩ : ∃ m : Nat, s = base + (m : Int) := ⟨(s - base).toNat, by omega⟩
                      have hml : m < ws.length := by omega
                      have s1 : ((m : Int) != s - base) = false := by simp; omega
                      have HM := Lib.hid hm
                      clear hm
                      go_wp2_with fail
                      refine (off_in _ _ _ _ m _ H.out.st hml HB.out _ HM.out).mono ?_
                      rintro e w3 ⟨rfl, d, rfl⟩
                      have H2 := Lib.hid (H.out.drewN d)
                      dsimp only
                      go_wp2_with fail
                      refine (base_any _ _ _ _ _ H2.out.st).mono ?_
                      rintro e w3 ⟨rfl, rfl⟩
                      dsimp only
                      go_wp2_with fail
                      refine (words_any _ _ _ _ _ H2.out.st).mono ?_
                      rintro e w3 ⟨rfl, rfl⟩
                      dsimp only
                      go_wp2_with fail
                      go_roundw
                      case rel => exact ⟨k + 1, _, _, _, _, _, by omega, rfl, rfl, rfl, by go_num, H2.out⟩
                      case measure => simp [intOf]; omega
                  · as_aux_lemma =>
                      have hb' : base + (ws.length : Int) ≤ s := by omega
                      have HM := Lib.hid (show s < base ∨ base + (ws.length : Int) ≤ s from .inr hb')
                      go_wp2_with fail
                      refine (off_out _ _ _ _ _ _ H.out.st HB.out HM.out).mono ?_
                      rintro e w3 ⟨rfl, d, rfl⟩
                      have H2 := Lib.hid (H.out.drewN d)
                      dsimp only
                      go_wp2_with fail
                      refine (base_any _ _ _ _ _ H2.out.st).mono ?_
                      rintro e w3 ⟨rfl, rfl⟩
                      dsimp only
                      go_wp2_with fail
                      refine (words_any _ _ _ _ _ H2.out.st).mono ?_
                      rintro e w3 ⟨rfl, rfl⟩
                      dsimp only
                      go_wp2_with fail
                      go_roundw
                      case rel => exact ⟨k + 1, _, _, _, _, _, by omega, rfl, rfl, rfl, by go_num, H2.out⟩
                      case measure => simp [intOf]; omega
                · as_aux_lemma =>
                    have ha' : s < base := by omega
                    have HM := Lib.hid (show s < base ∨ base + (ws.length : Int) ≤ s from .inl ha')
                    go_wp2_with fail
                    refine (off_out _ _ _ _ _ _ H.out.st HB.out HM.out).mono ?_
                    rintro e w3 ⟨rfl, d, rfl⟩
                    have H2 := Lib.hid (H.out.drewN d)
                    dsimp only
                    go_wp2_with fail
                    refine (base_any _ _ _ _ _ H2.out.st).mono ?_
                    rintro e w3 ⟨rfl, rfl⟩
                    dsimp only
                    go_wp2_with fail
                    refine (words_any _ _ _ _ _ H2.out.st).mono ?_
                    rintro e w3 ⟨rfl, rfl⟩
                    dsimp only
                    go_wp2_with fail
                    go_roundw
                    case rel => exact ⟨k + 1, _, _, _, _, _, by omega, rfl, rfl, rfl, by go_num, H2.out⟩
                    case measure => simp [intOf]; omega
        · as_aux_lemma =>
          obtain rfl : k = n := by omega
          have hkk : ¬ (k : Int) < (k : Int) := by omega
          go_wp2_with fail
          refine (clear_nil _).mono ?_
          rintro e w3 ⟨rfl, rfl⟩
          dsimp only
          go_wp2_with fail
          refine (load_nil _).mono ?_
          rintro e w3 ⟨rfl, rfl⟩
          dsimp only
          go_wp2_with fail
          refine (off_nil _ _).mono ?_
          rintro e w3 ⟨rfl, m, rfl⟩
          dsimp only
          go_wp2_with fail
          refine (store_nil _).mono ?_
          rintro e w3 ⟨rfl, rfl⟩
          dsimp only
          go_wp2_with fail
          refine (base_nil _).mono ?_
          rintro e w3 ⟨rfl, rfl⟩
          dsimp only
          go_wp2_with fail
          refine (words_nil _).mono ?_
          rintro e w3 ⟨rfl, rfl⟩
          dsimp only
          go_wp2_with fail
          refine (addr_nil _).mono ?_
          rintro e w3 ⟨rfl, rfl⟩
          dsimp only
          go_wp2_with fail
          refine (copy_nil _ _ _).mono ?_
          rintro e w3 ⟨rfl, rfl⟩
          dsimp only
          go_wp2_with fail
          refine (moved_nil _ _ _).mono ?_
          rintro e w3 ⟨rfl, m2, rfl⟩
          dsimp only
          go_wp2_with fail
          go_ret
          exact ⟨rfl, (H.out.drewN (m + m2)).bel⟩
end Go.Proofs.Ytpdleckflcangaa.StackPlays
