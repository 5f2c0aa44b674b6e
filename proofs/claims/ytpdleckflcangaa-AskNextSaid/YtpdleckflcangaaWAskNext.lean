/- The walk of besomlaw19.AskNext: it returns true, and writes nothing that was there. (Printed by a program of mine.) -/
import Derived.Test.YtpdleckflcangaaAskN
import Derived.Deep.CutBlock
import Derived.Deep.CutRange
namespace Go.Proofs.Ytpdleckflcangaa.AskNext
open Go.RowKit Go.Proofs.Ytpdleckflcangaa.Ask
set_option linter.unusedSimpArgs false
set_option linter.unusedVariables false

theorem infoH : (Try.prog.info? 32).map (fun i => (i.zero, i.size, i.bytes)) = some (some (.agg #[.int .i64 0, .bool false]), 2, 16) := by kernel_rfl
set_option maxRecDepth 100000 in
theorem early (A : Option Addr) (n c : Nat) (A' : Option Addr) (n' c' : Nat) (w : World) (h : 30 < n ∨ 60 < n') :
    Calls Try.prog 4 #[.slice A n c, .slice A' n' c'] w fun e w' => e = .returned (.bool true) ∧ Below w.heap.size w w' := by
  by_cases h1 : 30 < n
  · have h2 : (30 : Int) < (n : Int) := by omega
    clear h
    go_enter Try.func4, Try.ntmps4
    go_wp2_with fail
    refine (alive _).mono ?_
    rintro e w1 ⟨rfl, hb1⟩
    dsimp only
    go_wp2_with fail
    go_ret
    exact ⟨rfl, hb1⟩
  · have h2 : ¬ (30 : Int) < (n : Int) := by omega
    have h3 : (60 : Int) < (n' : Int) := by omega
    clear h
    go_enter Try.func4, Try.ntmps4
    go_wp2_with fail
    refine (alive _).mono ?_
    rintro e w1 ⟨rfl, hb1⟩
    dsimp only
    go_wp2_with fail
    go_ret
    exact ⟨rfl, hb1⟩
set_option maxRecDepth 100000 in
set_option maxHeartbeats 4000000 in
theorem core (A : Option Addr) (n c : Nat) (l : List (Int × Bool)) (A' : Option Addr) (n' c' : Nat) (js : List Bool) (w : World) (hl : l.length = n) (hR : Reads w w.heap.size 2 A n c (hc l)) (hl' : js.length = n') (hR' : Reads w w.heap.size 1 A' n' c' (js.map Value.bool)) (hn : n ≤ 30) (hn' : n' ≤ 60) :
    Calls Try.prog 4 #[.slice A n c, .slice A' n' c'] w fun e w' => e = .returned (.bool true) ∧ Below w.heap.size w w' := by
  obtain ⟨i0, hi0, hz0, hz1, hz2⟩ := info_parts infoH
  have HI := Lib.hid (⟨hi0, hz0, hz1, hz2⟩ : Try.prog.info? 32 = some i0 ∧ i0.zero = some (.agg #[.int .i64 0, .bool false]) ∧ i0.size = 2 ∧ i0.bytes = 16)
  have HR := Lib.hid hR
  have HR' := Lib.hid hR'
  have HL := Lib.hid hl
  have HL' := Lib.hid hl'
  clear hR hR' hl hl' hi0 hz0 hz1 hz2
  have h1 : (n : Int) ≤ 30 := by omega
  have h2 : (n' : Int) ≤ 60 := by omega
  go_enter Try.func4, Try.ntmps4
  go_wp2_with fail
  refine (alive _).mono ?_
  rintro e w0 ⟨rfl, hb0⟩
  have HB0 := Lib.hid hb0
  clear hb0
  dsimp only
  go_wp2_with (first
    | (at_builtin; go_loud (refine wpList_app _ rfl _ _ 29 rfl w.heap.size 32 i0 _ 2 16 Try.underlying29 HI.out.1 HI.out.2.1 HI.out.2.2.1 HI.out.2.2.2 rfl (by decide) _ 0 [] rfl (World.ownsRow_nil _ _ _ _) w.heap.size A n c (hc l) rfl ?c1 (hc_one l) ?c2 ?c3 ?c4 ?_))
    | fail)
  case c1 => exact HR.out.below HB0.out
  case c2 => unfold maxLen; omega
  case c3 => omega
  case c4 => exact HB0.out.size
  intro a0 c0 w2 ho2 hg2 hat2
  have HW := Lib.hid (show Below w.heap.size w w2 from HB0.out.grown hg2 HB0.out.size (fun k e => by simp [Value.ownBlock] at e))
  try simp only [Nat.zero_add, List.nil_append] at ho2
  have H := Lib.hid (show Hs w w2 a0 n c0 l from ⟨ho2, HL.out, HW.out⟩)
  clear ho2 hg2 hat2 HW HB0
  go_wp2_with fail
  go_loop [6, 7] (fun t i => ∃ m : Nat, m ≤ n ∧ i = .int .i64 ((m : Int) - 1) ∧ t = .int .i64 (wi l m)) (fun _ i => (intOf i + 1).toNat)
  case atStart => exact ⟨n, Nat.le_refl _, by first | rfl | go_num, by rw [wi_end HL.out]⟩
  case round =>
    obtain ⟨m, hm, rfl, rfl⟩ := hrel
    by_cases hm0 : m = 0
    · subst hm0
      rw [show (((0 : Nat) : Int) - 1) = -1 from rfl]
      have HZ := Lib.hid (wi_zero l)
      go_wp2_with fail
      refine (next_any _ _ _ _ _ _ H.out.reads (Nat.le_refl _) HL.out).mono ?_
      rintro e w3 ⟨rfl, hb⟩
      have H3 := Lib.hid (H.out.call hb)
      clear H hb
      obtain ⟨N, hN⟩ : ∃ N, nextI l = N := ⟨_, rfl⟩
      rw [hN]
      have HN := Lib.hid hN
      have hW := HZ.out
      rw [hN] at hW
      clear HZ hN
      have HP := Lib.hid (show (N = none ∧ wi l 0 = -1) ∨ (∃ k : Nat, N = some k ∧ wi l 0 = (k : Int)) by cases N with | none => exact .inl ⟨rfl, hW⟩ | some k => exact .inr ⟨k, rfl, hW⟩)
      clear hW
      generalize wi l 0 = W at *
      dsimp only
      go_upto_region 11 with (fail)
      go_cut [76] from 57 to 75 (fun r wx => r = .bool false ∧ wx = w3)
      case first =>
        rcases HP.out with ⟨rfl, rfl⟩ | ⟨k, rfl, rfl⟩
        · simp only [Option.getD, Option.isSome]
          go_wp2_with fail
          go_meet
          exact ⟨rfl, rfl⟩
        · simp only [Option.getD, Option.isSome]
          have hk0 : (0 : Int) ≤ (k : Int) := by omega
          have hkk : ((k : Int) != (k : Int)) = false := by simp
          go_wp2_with fail
          go_meet
          exact ⟨rfl, rfl⟩
      case rest =>
        obtain ⟨rfl, rfl⟩ := hcut
        generalize ((Option.getD N 0 : Nat) : Int) = kk at *
        generalize Option.isSome N = ok at *
        clear HP HN
        go_wp2_with fail
        go_loop [10] (fun i => ∃ m : Nat, m ≤ n ∧ i = .int .i64 m ∧ ∀ x ∈ l.take m, 0 ≤ x.1 ∧ x.1 ≤ 4) (fun i => n - (intOf i).toNat)
        case atStart => exact ⟨0, Nat.zero_le _, rfl, by simp⟩
        case round =>
          obtain ⟨m, hm, rfl, hall⟩ := hrel
          have HA := Lib.hid hall
          clear hall
          by_cases hlt : m < n
          · obtain ⟨⟨st, bl⟩, hx⟩ : ∃ q, l[m]? = some q := ⟨_, List.getElem?_eq_getElem (by have := HL.out; omega)⟩
            obtain ⟨g, rfl, hg1, hg2, k1, k2, k3⟩ := H3.out.at_ hx
            dsimp only at k1 k2
            have hm0 : (0 : Int) ≤ (m : Int) := by omega
            have hmn : (m : Int) < (n : Int) := by omega
            have HT := Lib.hid (show l.take (m + 1) = l.take m ++ [(st, bl)] by rw [List.take_add_one, hx]; rfl)
            clear hx k3 k2
            by_cases s0 : st < 0
            · go_wp2_with fail
              go_ret
              exact ⟨rfl, H3.out.bel⟩
            · by_cases s4 : 4 < st
              · go_wp2_with fail
                go_ret
                exact ⟨rfl, H3.out.bel⟩
              · have HA2 := Lib.hid (show ∀ x ∈ l.take (m + 1), 0 ≤ x.1 ∧ x.1 ≤ 4 from by
                  intro x hx
                  rw [HT.out] at hx
                  rcases List.mem_append.1 hx with hx | hx
                  · exact HA.out x hx
                  · rw [List.mem_singleton.1 hx]; exact ⟨by show 0 ≤ st; omega, by show st ≤ 4; omega⟩)
                go_wp2_with fail
                exact ⟨⟨m + 1, by omega, by go_num, HA2.out⟩, by simp [intOf]; omega⟩
          · obtain rfl : m = n := by omega
            have HA2 := Lib.hid (show ∀ x ∈ l, 0 ≤ x.1 ∧ x.1 ≤ 4 by have := HA.out; rwa [List.take_of_length_le (by have := HL.out; omega)] at this)
            clear HA
            have hmm : ¬ (m : Int) < (m : Int) := by omega
            have HC := Lib.hid (show l.countP waits ≤ 30 from Nat.le_trans (cnt_le l) (by rw [HL.out]; exact hn))
            go_wp2_with fail
            have H := Lib.hid (show Hs w wc a0 m c0 l from H3.out)
            clear H3
            go_loopw [11] (fun i wr => ∃ (r : Nat) (hs : List (Int × Bool)), i = .int .i64 r ∧ r + hs.countP waits ≤ 30 ∧ (∀ x ∈ hs, 0 ≤ x.1 ∧ x.1 ≤ 4) ∧ Hs w wr a0 m c0 hs) (fun i _ => 200 - (intOf i).toNat)
            case atStart => exact ⟨0, l, rfl, by have := HC.out; omega, HA2.out, H.out⟩
            case round =>
              clear H HC HA2 HL HR
              obtain ⟨r, hs, rfl, hcn, hok, hH⟩ := hrel
              have H := Lib.hid hH
              have HC := Lib.hid hcn
              have HOK := Lib.hid hok
              have hr : (r : Int) < 200 := by omega
              clear hcn hok hH
              go_wp2_with fail
              refine (next_any _ _ _ _ _ _ H.out.reads (Nat.le_refl _) H.out.len).mono ?_
              rintro e w4 ⟨rfl, hb⟩
              have H4 := Lib.hid (H.out.call hb)
              clear H hb
              rcases hN : nextI hs with _ | k
              · simp only [Option.getD, Option.isSome]
                clear hN
                go_wp2_with fail
                go_ret
                exact ⟨rfl, H4.out.bel⟩
              · simp only [Option.getD, Option.isSome]
                obtain ⟨st, hx, hs4⟩ := next_some hN
                have HCS := Lib.hid (cnt_set hx hs4)
                obtain ⟨g, rfl, hg1, hg2, k1, k2, k3⟩ := H4.out.at_ hx
                dsimp only at k1 k2
                have hkl : k < hs.length := (List.getElem?_eq_some_iff.1 hx).1
                have hkm : (k : Int) < (m : Int) := by have := H4.out.len; omega
                have hk0 : (0 : Int) ≤ (k : Int) := by omega
                have hst := HOK.out _ (List.mem_of_getElem? hx)
                dsimp only at hst
                have W1 := Lib.hid (way1 hst.1 hst.2 hs4)
                have HWF := Lib.hid (small_wf hst.1 hst.2)
                have k4 := k3 (k * 2)
                have k5 := k3 (k * 2 + 1)
                have HX := Lib.hid hx
                clear hN hx hst hs4 k3 hkl
                have HASK := Lib.hid (fun w => ask_any st false w HWF.out)
                generalize nx st 0 = s1 at *
                have hj : n' ≤ r ∨ ∃ (j : Bool), js[r]? = some j := by
                  by_cases hlt : r < n'
                  · exact .inr ⟨_, List.getElem?_eq_getElem (by have := HL'.out; omega)⟩
                  · exact .inl (by omega)
                rcases hj with hj | ⟨j, hj⟩
                · have hjr : ¬ (r : Int) < (n' : Int) := by omega
                  go_wp2_with fail
                  refine (HASK.out _).mono ?_
                  rintro e w5 ⟨rfl, hb⟩
                  have HV := Lib.hid (Hv.start (H4.out.call hb) s1 false)
                  skip
                  skip
                  clear H4 hb k1 k2 k4 k5 HASK
                  dsimp only
                  obtain ⟨l1, l2, l3, l4⟩ := HV.out.blk.two
                  go_wp2_with fail
                  generalize w5.alloc (.cells #[.int .i64 s1, .bool false] 32) = w5s at *
                  generalize w5.heap.size = b at *
                  refine (reach_yes s1 false _ (way_wf W1.out)).mono ?_
                  have W3 := Lib.hid (way3 W1.out)
                  generalize nx s1 1 = s3 at *
                  rintro e w7 ⟨rfl, hb⟩
                  have HV1 := Lib.hid (HV.out.call hb)
                  have HV2 := Lib.hid ((HV.out.call hb).set (s3) false)
                  clear HV hb l1 l2 l3 l4
                  obtain ⟨l1, l2, l3, l4⟩ := HV1.out.blk.two
                  have HV := Lib.hid HV2.out
                  clear HV2
                  dsimp only
                  go_wp2_with fail
                  generalize (w7.setCell ⟨b, 0, none⟩ (.int .i64 (s3))).setCell ⟨b, 1, none⟩ (.bool false) = w7s at *
                  clear HV1
                  refine (scan_any s3 false _ (way_wf2 W3.out)).mono ?_
                  rw [(way4 W3.out).1, (way4 W3.out).2]
                  rintro e w8 ⟨rfl, hb⟩
                  have HV1 := Lib.hid (HV.out.call hb)
                  have HV2 := Lib.hid ((HV.out.call hb).set (0) true)
                  clear HV hb l1 l2 l3 l4
                  obtain ⟨l1, l2, l3, l4⟩ := HV1.out.blk.two
                  have HV := Lib.hid HV2.out
                  clear HV2
                  simp only [Bool.false_or]
                  obtain ⟨g', eg, _, _, q1, q2, q3⟩ := HV1.out.hs.at_ HX.out
                  injection eg with eg
                  injection eg with eg
                  subst eg
                  dsimp only at q1 q2
                  have q4 := q3 (k * 2)
                  have q5 := q3 (k * 2 + 1)
                  have hgb : b ≠ g := fun e => HV1.out.ne (by rw [e]; rfl)
                  have hgb' : g ≠ b := fun e => hgb e.symm
                  clear q3 HV1
                  have H8 := Lib.hid (HV.out.hs.put k 0 true)
                  clear HV
                  go_wp2_with fail
                  exact ⟨⟨r + 1, hs.set k (0, true), by go_num, by have h1 := HCS.out; have h2 := HC.out; omega, mem_set_ok HOK.out, H8.out⟩, by simp [intOf]; omega⟩
                · obtain ⟨jb, jo, rfl, hjb, hjc0⟩ := HR'.out.at_ (j := r) (u := .bool j) (by rw [List.getElem?_map, hj]; rfl)
                  have hjr : (r : Int) < (n' : Int) := by have h9 := (List.getElem?_eq_some_iff.1 hj).1; have := HL'.out; omega
                  have hr0 : (0 : Int) ≤ (r : Int) := by omega
                  have HJ := Lib.hid hjc0
                  clear hj hjc0
                  cases j
                  · go_wp2_with fail
                    refine (HASK.out _).mono ?_
                    rintro e w5 ⟨rfl, hb⟩
                    have HV := Lib.hid (Hv.start (H4.out.call hb) s1 false)
                    have hjc := ((H4.out.call hb).bel.cell (p := ⟨jb, jo + r, none⟩) hjb).trans HJ.out
                    have hjz : jb < w5.heap.size := Nat.lt_of_lt_of_le hjb (H4.out.call hb).bel.size
                    clear H4 hb k1 k2 k4 k5 HASK
                    dsimp only
                    obtain ⟨l1, l2, l3, l4⟩ := HV.out.blk.two
                    go_wp2_with fail
                    generalize w5.alloc (.cells #[.int .i64 s1, .bool false] 32) = w5s at *
                    generalize w5.heap.size = b at *
                    clear hjc hjz
                    refine (reach_yes s1 false _ (way_wf W1.out)).mono ?_
                    have W3 := Lib.hid (way3 W1.out)
                    generalize nx s1 1 = s3 at *
                    rintro e w7 ⟨rfl, hb⟩
                    have HV1 := Lib.hid (HV.out.call hb)
                    have HV2 := Lib.hid ((HV.out.call hb).set (s3) false)
                    clear HV hb l1 l2 l3 l4
                    obtain ⟨l1, l2, l3, l4⟩ := HV1.out.blk.two
                    have HV := Lib.hid HV2.out
                    clear HV2
                    dsimp only
                    go_wp2_with fail
                    generalize (w7.setCell ⟨b, 0, none⟩ (.int .i64 (s3))).setCell ⟨b, 1, none⟩ (.bool false) = w7s at *
                    clear HV1
                    refine (scan_any s3 false _ (way_wf2 W3.out)).mono ?_
                    rw [(way4 W3.out).1, (way4 W3.out).2]
                    rintro e w8 ⟨rfl, hb⟩
                    have HV1 := Lib.hid (HV.out.call hb)
                    have HV2 := Lib.hid ((HV.out.call hb).set (0) true)
                    clear HV hb l1 l2 l3 l4
                    obtain ⟨l1, l2, l3, l4⟩ := HV1.out.blk.two
                    have HV := Lib.hid HV2.out
                    clear HV2
                    simp only [Bool.false_or]
                    obtain ⟨g', eg, _, _, q1, q2, q3⟩ := HV1.out.hs.at_ HX.out
                    injection eg with eg
                    injection eg with eg
                    subst eg
                    dsimp only at q1 q2
                    have q4 := q3 (k * 2)
                    have q5 := q3 (k * 2 + 1)
                    have hgb : b ≠ g := fun e => HV1.out.ne (by rw [e]; rfl)
                    have hgb' : g ≠ b := fun e => hgb e.symm
                    clear q3 HV1
                    have H8 := Lib.hid (HV.out.hs.put k 0 true)
                    clear HV
                    go_wp2_with fail
                    exact ⟨⟨r + 1, hs.set k (0, true), by go_num, by have h1 := HCS.out; have h2 := HC.out; omega, mem_set_ok HOK.out, H8.out⟩, by simp [intOf]; omega⟩
                  · go_wp2_with fail
                    refine (HASK.out _).mono ?_
                    rintro e w5 ⟨rfl, hb⟩
                    have HV := Lib.hid (Hv.start (H4.out.call hb) s1 false)
                    have hjc := ((H4.out.call hb).bel.cell (p := ⟨jb, jo + r, none⟩) hjb).trans HJ.out
                    have hjz : jb < w5.heap.size := Nat.lt_of_lt_of_le hjb (H4.out.call hb).bel.size
                    clear H4 hb k1 k2 k4 k5 HASK
                    dsimp only
                    obtain ⟨l1, l2, l3, l4⟩ := HV.out.blk.two
                    go_wp2_with fail
                    generalize w5.alloc (.cells #[.int .i64 s1, .bool false] 32) = w5s at *
                    generalize w5.heap.size = b at *
                    clear hjc hjz
                    refine (jolt_any s1 false _ (way_wf W1.out)).mono ?_
                    have W2 := Lib.hid (way2 W1.out)
                    generalize nx s1 2 = s2 at *
                    rintro e w6 ⟨rfl, hb⟩
                    have HV1 := Lib.hid (HV.out.call hb)
                    have HV2 := Lib.hid ((HV.out.call hb).set (s2) false)
                    clear HV hb l1 l2 l3 l4
                    obtain ⟨l1, l2, l3, l4⟩ := HV1.out.blk.two
                    have HV := Lib.hid HV2.out
                    clear HV2
                    dsimp only
                    go_wp2_with fail
                    generalize (w6.setCell ⟨b, 0, none⟩ (.int .i64 (s2))).setCell ⟨b, 1, none⟩ (.bool false) = w6s at *
                    clear HV1
                    refine (reach_yes s2 false _ (way_wf W2.out)).mono ?_
                    have W3 := Lib.hid (way3 W2.out)
                    generalize nx s2 1 = s3 at *
                    rintro e w7 ⟨rfl, hb⟩
                    have HV1 := Lib.hid (HV.out.call hb)
                    have HV2 := Lib.hid ((HV.out.call hb).set (s3) false)
                    clear HV hb l1 l2 l3 l4
                    obtain ⟨l1, l2, l3, l4⟩ := HV1.out.blk.two
                    have HV := Lib.hid HV2.out
                    clear HV2
                    dsimp only
                    go_wp2_with fail
                    generalize (w7.setCell ⟨b, 0, none⟩ (.int .i64 (s3))).setCell ⟨b, 1, none⟩ (.bool false) = w7s at *
                    clear HV1
                    refine (scan_any s3 false _ (way_wf2 W3.out)).mono ?_
                    rw [(way4 W3.out).1, (way4 W3.out).2]
                    rintro e w8 ⟨rfl, hb⟩
                    have HV1 := Lib.hid (HV.out.call hb)
                    have HV2 := Lib.hid ((HV.out.call hb).set (0) true)
                    clear HV hb l1 l2 l3 l4
                    obtain ⟨l1, l2, l3, l4⟩ := HV1.out.blk.two
                    have HV := Lib.hid HV2.out
                    clear HV2
                    simp only [Bool.false_or]
                    obtain ⟨g', eg, _, _, q1, q2, q3⟩ := HV1.out.hs.at_ HX.out
                    injection eg with eg
                    injection eg with eg
                    subst eg
                    dsimp only at q1 q2
                    have q4 := q3 (k * 2)
                    have q5 := q3 (k * 2 + 1)
                    have hgb : b ≠ g := fun e => HV1.out.ne (by rw [e]; rfl)
                    have hgb' : g ≠ b := fun e => hgb e.symm
                    clear q3 HV1
                    have H8 := Lib.hid (HV.out.hs.put k 0 true)
                    clear HV
                    go_wp2_with fail
                    exact ⟨⟨r + 1, hs.set k (0, true), by go_num, by have h1 := HCS.out; have h2 := HC.out; omega, mem_set_ok HOK.out, H8.out⟩, by simp [intOf]; omega⟩
    · obtain ⟨m, rfl⟩ : ∃ j, m = j + 1 := ⟨m - 1, by omega⟩
      rw [show (((m + 1 : Nat) : Int) - 1) = (m : Int) by omega]
      obtain ⟨⟨st, bl⟩, hx⟩ : ∃ q, l[m]? = some q := ⟨_, List.getElem?_eq_getElem (by have := HL.out; omega)⟩
      obtain ⟨g, rfl, hg1, hg2, k1, k2, k3⟩ := H.out.at_ hx
      dsimp only at k1 k2
      have HS := Lib.hid (wi_step hx)
      have hm0 : (0 : Int) ≤ (m : Int) := by omega
      have hmn : (m : Int) < (n : Int) := by omega
      clear hx k3
      by_cases h4 : st = 4
      · subst h4
        rw [show waits (4, bl) = false from rfl] at HS
        simp only [Bool.false_eq_true, if_false] at HS
        go_wp2_with fail
        exact ⟨⟨m, by omega, by go_num, by rw [HS.out]⟩, by simp [intOf]⟩
      · have h5 : (st != 4) = true := by simpa using h4
        cases bl
        · rw [show waits (st, false) = true by simp [waits, h5]] at HS
          simp only [if_true] at HS
          clear h4
          go_wp2_with fail
          exact ⟨⟨m, by omega, by go_num, by rw [HS.out]⟩, by simp [intOf]⟩
        · rw [show waits (st, true) = false by simp [waits]] at HS
          simp only [Bool.false_eq_true, if_false] at HS
          clear h4
          go_wp2_with fail
          exact ⟨⟨m, by omega, by go_num, by rw [HS.out]⟩, by simp [intOf]⟩

theorem walk (A : Option Addr) (n c : Nat) (l : List (Int × Bool)) (A' : Option Addr) (n' c' : Nat) (js : List Bool) (w : World) (hl : l.length = n) (hlw : ∀ q ∈ l, (Lit.int .i64 q.1).wf = true) (hR : Reads w w.heap.size 2 A n c (ibCells l)) (hl' : js.length = n') (hR' : Reads w w.heap.size 1 A' n' c' (js.map Value.bool)) :
    Calls Try.prog 4 #[.slice A n c, .slice A' n' c'] w fun e w' => e = .returned (.bool true) ∧ Below w.heap.size w w' := by
  by_cases h : 30 < n ∨ 60 < n'
  · exact early A n c A' n' c' w h
  · exact core A n c l A' n' c' js w hl hR hl' hR' (by omega) (by omega)
end Go.Proofs.Ytpdleckflcangaa.AskNext
