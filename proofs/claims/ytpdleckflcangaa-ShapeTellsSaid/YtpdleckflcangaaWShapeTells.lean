/- The walk of besomlaw4.ShapeTells: it returns true, and writes nothing that was there. -/
import Derived.Test.YtpdleckflcangaaShpS
import Derived.Test.YtpdleckflcangaaShpQ
import Derived.Test.YtpdleckflcangaaShpL
import Derived.Test.YtpdleckflcangaaExt
import Derived.Deep.CutRange
namespace Go.Proofs.Ytpdleckflcangaa.ShapeTells
open Go.RowKit Shp Book
set_option linter.unusedSimpArgs false
set_option linter.unusedVariables false

theorem points_all (k : Int) (w : World) : Calls Try.prog 26 #[.int .i64 k] w fun e w' => e = .returned (.tuple #[.int .i64 (if isP k then k - 16 else 0), .bool (isP k)]) ∧ w = w' := by
  by_cases h : 16 ≤ k ∧ k < 32
  · rw [show isP k = true from decide_eq_true h, if_pos rfl]
    exact points_yes k w h.1 h.2
  · rw [show isP k = false from decide_eq_false h, if_neg (by decide)]
    exact points_no k w (by omega)
def isL (k : Int) : Bool := decide (64 ≤ k ∧ k < 80)
theorem places_all (k : Int) (w : World) : Calls Try.prog 27 #[.int .i64 k] w fun e w' => e = .returned (.tuple #[.int .i64 (if isL k then k - 64 else 0), .bool (isL k)]) ∧ w = w' := by
  by_cases h : 64 ≤ k ∧ k < 80
  · rw [show isL k = true from decide_eq_true h, if_pos rfl]
    exact places_yes k w h.1 h.2
  · rw [show isL k = false from decide_eq_false h, if_neg (by decide)]
    exact places_no k w (by omega)

set_option maxRecDepth 100000 in
theorem early (a s : Int) (A : Option Addr) (n c : Nat) (A2 : Option Addr) (n2 c2 : Nat) (w : World) (hm : n ≤ 9223372036854775807) (hm2 : n2 ≤ 9223372036854775807) (h : 30 < n ∨ 40 < n2) :
    Calls Try.prog 11 #[.int .i64 a, .int .i64 s, .slice A n c, .slice A2 n2 c2] w fun e w' => e = .returned (.bool true) ∧ Below w.heap.size w w' := by
  by_cases h1 : 30 < n
  · clear h
    go_enter Try.func11, Try.ntmps11
    go_wp2_with fail
    refine (alive _).mono ?_
    rintro e w1 ⟨rfl, hb1⟩
    dsimp only
    go_wp2_with fail
    go_ret
    exact ⟨rfl, hb1⟩
  · have h2 : 40 < n2 := by omega
    clear h
    go_enter Try.func11, Try.ntmps11
    go_wp2_with fail
    refine (alive _).mono ?_
    rintro e w1 ⟨rfl, hb1⟩
    dsimp only
    go_wp2_with fail
    go_ret
    exact ⟨rfl, hb1⟩

set_option maxRecDepth 1000000 in
set_option maxHeartbeats 4000000 in
theorem core (a s : Int) (A : Option Addr) (n c : Nat) (A2 : Option Addr) (n2 c2 : Nat) (ls : List (List Int)) (ks : List Int) (w : World) (wa : (Lit.int .i64 a).wf = true) (h : RS w w.heap.size A n c ls) (h2 : RI w w.heap.size A2 n2 c2 ks) (hn : n ≤ 30) (hn2 : n2 ≤ 40) :
    Calls Try.prog 11 #[.int .i64 a, .int .i64 s, .slice A n c, .slice A2 n2 c2] w fun e w' => e = .returned (.bool true) ∧ Below w.heap.size w w' := by
  have HR := Lib.hid h
  have HK := Lib.hid h2
  have HN := Lib.hid h.1
  have HA := Lib.hid wa
  clear h h2 wa
  go_enter Try.func11, Try.ntmps11
  go_wp2_with fail
  refine (alive _).mono ?_
  rintro e w1 ⟨rfl, hb1⟩
  have HR1 := Lib.hid (HR.out.keep hb1)
  dsimp only
  go_wp2_with fail
  go_loop [9] (fun i => ∃ k : Nat, k ≤ n ∧ i = .int .i64 k ∧ ∀ l ∈ ls.take k, l.length ≤ 40) (fun i => n - (intOf i).toNat)
  case atStart => exact ⟨0, Nat.zero_le _, rfl, by simp⟩
  case round =>
    obtain ⟨k, hk, rfl, hall⟩ := hrel
    have HALL := Lib.hid hall
    clear hall
    by_cases hlt : k < n
    · have hkl : k < ls.length := by have := HN.out; omega
      have hlk : ls[k]? = some ls[k] := List.getElem?_eq_getElem hkl
      obtain ⟨b, off, A', c', rfl, hbb, hcell, hRI, hwf⟩ := HR1.out.2.2.2 k _ hlk
      have hlm : ls[k].length ≤ 9223372036854775807 := by have := hRI.2.1; have := hRI.2.2.1; unfold maxLen at this; omega
      have HTK := Lib.hid (show ls.take (k + 1) = ls.take k ++ [ls[k]] from List.take_succ_eq_append_getElem hkl)
      generalize ls[k] = l at *
      clear hRI hwf hlk
      by_cases h40 : 40 < l.length
      · go_wp2_with fail
        go_ret
        exact ⟨rfl, hb1⟩
      · go_wp2_with fail
        refine ⟨⟨k + 1, by omega, by go_num, fun y hy => ?_⟩, by simp [intOf]; omega⟩
        rw [HTK.out] at hy
        rcases List.mem_append.1 hy with hy | hy
        · exact HALL.out y hy
        · rw [List.mem_singleton.1 hy]; omega
    · have hkn : k = n := by omega
      subst hkn
      go_upto_region 10 with (first
        | (go_at_call 26; refine (points_all _ _).mono ?_; rintro e w4 ⟨rfl, rfl⟩; dsimp only)
        | (go_at_call 27; refine (places_all _ _).mono ?_; rintro e w4 ⟨rfl, rfl⟩; dsimp only))
      go_cut [117] from 56 to 117 (fun t wx => t = .bool false ∧ Below w.heap.size w wx)
      case first =>
        have hP : ∀ w, Calls Try.prog 41 #[.int .i64 a] w fun e w' => e = .returned (.bool (isP a)) ∧ w = w' := isptr_any a
        have hL : ∀ w, Calls Try.prog 42 #[.int .i64 a] w fun e w' => e = .returned (.bool (isL a)) ∧ w = w' := isloc_any a
        have hV := fun w => valid_any a s w HA.out
        have hF := fun w => field_any a s w HA.out
        have hV2 := rvalid_any a s
        have hF2 := rfield_any a s
        generalize decide (0 < kof s true a) = V at *
        generalize decide (0 < kof s false a) = F at *
        have h3 : (isP a = true ∧ isL a = false ∧ 16 ≤ a ∧ a < 32) ∨ (isP a = false ∧ isL a = true ∧ 64 ≤ a ∧ a < 80) ∨ (isP a = false ∧ isL a = false) := by unfold isP isL; simp; omega
        generalize isP a = P at *
        generalize isL a = L at *
        have HP := Lib.hid hP
        have HL := Lib.hid hL
        have HV := Lib.hid hV
        have HF := Lib.hid hF
        have HV2 := Lib.hid hV2
        have HF2 := Lib.hid hF2
        clear hP hL hV hF hV2 hF2
        rcases h3 with ⟨rfl, rfl, ha1, ha2⟩ | ⟨rfl, rfl, ha1, ha2⟩ | ⟨rfl, rfl⟩
        all_goals
          simp only [if_true, if_false, Bool.false_eq_true]
          go_wp2_with fail
          refine (HV.out _).mono ?_
          rintro e w5 ⟨rfl, hb5⟩
          have hw5 := Lib.hid (fresh_call hb1 hb5)
          clear hb5
          dsimp only
          go_wp2_with fail
          refine (HV2.out _).mono ?_
          rintro e w6 ⟨rfl, rfl⟩
          dsimp only
          go_wp2_with fail
          refine (HF.out _).mono ?_
          rintro e w7 ⟨rfl, hb7⟩
          have hw7 := Lib.hid (fresh_call hw5.out hb7)
          clear hb7
          dsimp only
          go_wp2_with fail
          refine (HF2.out _).mono ?_
          rintro e w8 ⟨rfl, rfl⟩
          dsimp only
          go_wp2_with fail
          refine (HP.out _).mono ?_
          rintro e w8 ⟨rfl, rfl⟩
          dsimp only
          go_wp2_with fail
          refine (HL.out _).mono ?_
          rintro e w8 ⟨rfl, rfl⟩
          dsimp only
          go_wp2_with fail
          go_meet
          exact ⟨rfl, hw7.out⟩
      case rest =>
        obtain ⟨rfl, hwc⟩ := hcut
        have HALL2 := Lib.hid HALL.out
        generalize (if isP a = true then a - 16 else 0) = va at *
        generalize (if isL a = true then a - 64 else 0) = vb at *
        generalize isP a = P at *
        generalize isL a = L at *
        have H0 := Lib.hid hwc
        clear hwc HALL hb1
        go_wp2_with fail
        go_loopw [14] (fun i wr => ∃ q : Nat, q ≤ k ∧ i = .int .i64 q ∧ Below w.heap.size w wr) (fun i _ => k - (intOf i).toNat)
        case atStart => exact ⟨0, Nat.zero_le _, rfl, H0.out⟩
        case round =>
          clear H0
          obtain ⟨q, hq, rfl, hw⟩ := hrel
          by_cases hql : q < k
          · have hqls : q < ls.length := by have := HN.out; omega
            have hlq : ls[q]? = some ls[q] := List.getElem?_eq_getElem hqls
            obtain ⟨b, off, A', c', rfl, hbb, hcell, hRI, hwf⟩ := (HR.out.keep hw).2.2.2 q _ hlq
            have h40 := HALL2.out ls[q] (List.mem_take_iff_getElem.2 ⟨q, by have := HN.out; omega, rfl⟩)
            have HLQ := Lib.hid hlq
            generalize hl : ls[q] = l at *
            have HRI := Lib.hid hRI
            have hsz := hw.size
            have HWF := Lib.hid hwf
            clear hl hRI hwf hlq
            go_wp2_with fail
            refine (lent_any _ _ _ _ _ _ HRI.out (by omega)).mono ?_
            rintro e w3 ⟨g, cg, rfl, hown, hb3⟩
            have HOWN := Lib.hid hown
            have hw3 := fresh_call hw hb3
            have HB3 := Lib.hid hb3
            clear hown hb3
            dsimp only
            go_wp2_with fail
            obtain ⟨hfr, hmk, hcg, hcm, hgl, hgb⟩ := lent_reads HOWN.out
            have BS := Lib.hid (Blk.new w3 #[Value.slice (some ⟨g, 0, none⟩) l.length cg] 48)
            have hw4 := fresh_alloc hw3 (.cells #[Value.slice (some ⟨g, 0, none⟩) l.length cg] 48)
            have hb4 := (Below.refl w3.heap.size w3).alloc (Nat.le_refl _) (.cells #[Value.slice (some ⟨g, 0, none⟩) l.length cg] 48)
            have HF4 := Lib.hid (show RI (w3.alloc (.cells #[Value.slice (some ⟨g, 0, none⟩) l.length cg] 48)) (g + 1) (some ⟨g, 0, none⟩) l.length cg l from ⟨hfr.1, hfr.2.below (hb4.mono hgl)⟩)
            have HMK := Lib.hid ((hb4.cell (p := ⟨g, 0 + l.length, none⟩) hgl).trans hmk)
            have HW := Lib.hid hw
            have HW3 := Lib.hid hw3
            clear hfr hmk hb4 hw hw3 hcell
            generalize w3.alloc (.cells #[Value.slice (some ⟨g, 0, none⟩) l.length cg] 48) = w4 at *
            go_loop [17, 18] (fun o i => ∃ m want : Nat, m ≤ 16 ∧ i = .int .i64 ((m : Int) - 1) ∧ o = .int .i64 want ∧ Down l m want) (fun _ i => (intOf i + 1).toNat)
            case atStart => exact ⟨16, 0, Nat.le_refl _, rfl, rfl, down_zero l⟩
            case round =>
              obtain ⟨m, want, hm, rfl, rfl, hd⟩ := hrel
              have hlt := down_lt hd
              have HD := Lib.hid hd
              clear hd
              rcases m with _ | m
              · have hwe : want = pt l l.length := down_end HD.out
                subst hwe
                obtain ⟨b', off', A1, c1, hA, hb1, hcell1, hRI1, _⟩ := (HR.out.keep hw4).2.2.2 q _ HLQ.out
                injection hA with hA
                injection hA with hA1 hA2
                subst hA1 hA2
                have hbs := BS.out.lt
                have hb4 : b < w4.heap.size := by have := hw4.size; omega
                have hcs := BS.out.one.1
                have hk0 : (0 : Int) ≤ (q : Int) := by omega
                have hkn : (q : Int) < (k : Int) := by omega
                have HP := Lib.hid (show ∀ x : Ext w4, _ from fun x => x.call (pointers_any x.w (g + 1) (some ⟨g, 0, none⟩) l.length cg l ⟨HF4.out.1, HF4.out.2.below (x.below.mono (by omega))⟩ (by have := x.size_; omega)))
                have hS1 : ∀ x : Ext w4, Calls Try.prog 45 #[.agg #[.slice (some ⟨g, 0, none⟩) l.length cg], .agg #[.slice A1 l.length c1]] x.w fun e w' => e = .returned (.bool true) ∧ ∃ y : Ext w4, w' = y.w := by
                  intro x
                  have := same_any x.w (g + 1) w.heap.size (some ⟨g, 0, none⟩) A1 l.length cg l.length c1 l l ⟨HF4.out.1, HF4.out.2.below (x.below.mono (by omega))⟩ ⟨hRI1.1, hRI1.2.below (x.below.mono hw4.size)⟩ (by have := x.size_; omega) (by have := x.size_; have := hw4.size; omega)
                  rw [show decide (l = l) = true by simp] at this
                  exact x.call this
                have hS2 : ∀ x : Ext w4, Calls Try.prog 47 #[.slice (some ⟨g, 0, none⟩) l.length cg, .slice A1 l.length c1] x.w fun e w' => e = .returned (.bool true) ∧ ∃ y : Ext w4, w' = y.w := by
                  intro x
                  have := Book.stays_any x.w g 0 l.length cg w.heap.size A1 l.length c1 l l (.inr ⟨HF4.out.1, HF4.out.2.below (x.below.mono (by omega))⟩) ⟨hRI1.1, hRI1.2.below (x.below.mono hw4.size)⟩ (by omega) hcm ((x.cell_ _ _ (by omega)).trans HMK.out)
                  rw [show decide (l = l) = true by simp] at this
                  exact x.call_drew this
                have HS1 := Lib.hid hS1
                have HS2 := Lib.hid hS2
                clear hS1 hS2
                by_cases hq0 : 0 < q
                · have hq1 : decide ((0 : Int) < (q : Int)) = true := by simpa using hq0
                  have hw1 : IntKind.i64.wrap ((q : Int) - 1) = (q : Int) - 1 := IntWalk.i64_in _ (by omega)
                  have hq2 : (1 : Int) ≤ (q : Int) := by omega
                  have hq3 : (0 : Int) ≤ (q : Int) - 1 := by omega
                  have hq4 : (q : Int) - 1 < (k : Int) := by omega
                  have hq5 : ((q : Int) - 1).toNat = q - 1 := by omega
                  have hlq' : ls[q - 1]? = some ls[q - 1] := List.getElem?_eq_getElem (by omega)
                  obtain ⟨b', off', A2, c2, hA, hb2, hcell2, hRI2, _⟩ := (HR.out.keep hw4).2.2.2 (q - 1) _ hlq'
                  injection hA with hA
                  injection hA with hA1 hA2
                  subst hA1 hA2
                  generalize ls[q - 1] = l2 at *
                  have hS3 : ∀ x : Ext w4, Calls Try.prog 45 #[.agg #[.slice A1 l.length c1], .agg #[.slice A2 l2.length c2]] x.w fun e w' => e = .returned (.bool (decide (l = l2))) ∧ ∃ y : Ext w4, w' = y.w := by
                    intro x
                    exact x.call (same_any x.w w.heap.size w.heap.size A1 A2 l.length c1 l2.length c2 l l2 ⟨hRI1.1, hRI1.2.below (x.below.mono hw4.size)⟩ ⟨hRI2.1, hRI2.2.below (x.below.mono hw4.size)⟩ (by have := x.size_; have := hw4.size; omega) (by have := x.size_; have := hw4.size; omega))
                  have hS4 : ∀ x : Ext w4, Calls Try.prog 46 #[.slice A1 l.length c1, .slice A2 l2.length c2] x.w fun e w' => e = .returned (.bool (decide (l = l2))) ∧ ∃ y : Ext w4, w' = y.w := by
                    intro x
                    exact x.call_drew (Book.same_any x.w w.heap.size w.heap.size A1 A2 l.length c1 l2.length c2 l l2 ⟨hRI1.1, hRI1.2.below (x.below.mono hw4.size)⟩ ⟨hRI2.1, hRI2.2.below (x.below.mono hw4.size)⟩)
                  generalize decide (l = l2) = dl at *
                  have HS3 := Lib.hid hS3
                  have HS4 := Lib.hid hS4
                  clear hS3 hS4 hlq'
                  cases dl
                  all_goals
                    go_wp2_with fail
                    refine Ext.region w4 (by kernel_rfl) (by kernel_rfl) (Below.refl _ _) ?_
                    repeat (go_big_quiet_step ((first | (go_at_call 44; exact HP.out _) | (go_at_call 45; first | (with_reducible exact HS1.out _) | (with_reducible exact HS3.out _)) | (go_at_call 47; exact HS2.out _) | (go_at_call 46; exact HS4.out _))))
                    refine wpQuiet_nil ?_
                    rintro _ ⟨xq, rfl⟩
                    have hxq := hw4.trans (xq.below.mono hw4.size)
                    go_wp2_with fail
                    exact ⟨⟨q + 1, by omega, by go_num, hxq⟩, by simp [intOf]; omega⟩
                · have hq1 : decide ((0 : Int) < (q : Int)) = false := by simpa using hq0
                  go_wp2_with fail
                  refine Ext.region w4 (by kernel_rfl) (by kernel_rfl) (Below.refl _ _) ?_
                  repeat (go_big_quiet_step ((first | (go_at_call 44; exact HP.out _) | (go_at_call 45; exact HS1.out _) | (go_at_call 47; exact HS2.out _))))
                  refine wpQuiet_nil ?_
                  rintro _ ⟨xq, rfl⟩
                  have hxq := hw4.trans (xq.below.mono hw4.size)
                  go_wp2_with fail
                  exact ⟨⟨q + 1, by omega, by go_num, hxq⟩, by simp [intOf]; omega⟩
              · rw [show (((m + 1 : Nat) : Int) - 1) = (m : Int) by omega]
                have HN2 := Lib.hid (down_next HD.out (by omega))
                by_cases hml : m < l.length
                · have hlm : l[m]? = some l[m] := List.getElem?_eq_getElem hml
                  obtain ⟨b2, o2, hgo, hb2, hc2⟩ := HF4.out.at_ hlm
                  injection hgo with hgo
                  injection hgo with hgo1 hgo2
                  subst hgo1 hgo2
                  have HB := Lib.hid (show bit l m = if isP l[m] = true then 1 else 0 by unfold bit; rw [hlm]; simp)
                  generalize l[m] = x at *
                  clear hlm
                  rw [Nat.zero_add] at hc2
                  have HPX := Lib.hid (isptr_any x)
                  generalize isP x = PX at *
                  go_wp2_with fail
                  refine (HPX.out _).mono ?_
                  rintro e w5 ⟨rfl, rfl⟩
                  dsimp only
                  cases PX
                  · go_wp2_with fail
                    refine ⟨⟨m, 2 * want + bit l m, by omega, by go_num, ?_, HN2.out⟩, by simp [intOf]; try omega⟩
                    rw [HB.out]
                    go_num
                  · go_wp2_with fail
                    refine ⟨⟨m, 2 * want + bit l m, by omega, by go_num, ?_, HN2.out⟩, by simp [intOf]; try omega⟩
                    rw [HB.out]
                    go_num
                · have HB := Lib.hid (show bit l m = 0 by unfold bit; rw [List.getElem?_eq_none (by omega)]; rfl)
                  go_wp2_with fail
                  refine ⟨⟨m, 2 * want + bit l m, by omega, by go_num, ?_, HN2.out⟩, by simp [intOf]; try omega⟩
                  rw [HB.out]
                  go_num
          · have hqk : q = k := by omega
            subst hqk
            have HKR := Lib.hid (show RI wr w.heap.size A2 n2 c2 ks from ⟨HK.out.1, HK.out.2.below hw⟩)
            have hkl := HK.out.1
            have HKL := Lib.hid hkl
            clear hkl
            have HS40 := Lib.hid (show ∀ l ∈ ls, l.length ≤ 40 from fun l hl => HALL2.out l (by rw [List.take_of_length_le (by have := HN.out; omega)]; exact hl))
            go_wp2_with fail
            refine (lent_any _ _ _ _ _ _ HKR.out (by omega)).mono ?_
            rintro e w3 ⟨g, cg, rfl, hown, hb3⟩
            have hw3 := fresh_call hw hb3
            have HOWN := Lib.hid hown
            have HW3 := Lib.hid hw3
            clear hown hb3 hw hw3
            dsimp only
            go_wp2_with fail
            refine (check_any w3 _ _ _ _ ((HR.out.keep HW3.out).more HW3.out.size)).mono ?_
            rintro e w5 ⟨rfl, hb5⟩
            have HW5 := Lib.hid (fresh_call HW3.out hb5)
            have HB5 := Lib.hid hb5
            clear hb5
            dsimp only
            go_wp2_with fail
            refine (rshapes_any w5 _ _ _ _ _ (HR.out.keep HW5.out)).mono ?_
            rintro e w6 ⟨rfl, rfl⟩
            dsimp only
            generalize chk ls = cv at *
            obtain ⟨hfr, hmk, hcg, hcm, hgl, hgb⟩ := lent_reads HOWN.out
            have HF5 := Lib.hid (show RI w5 (g + 1) (some ⟨g, 0, none⟩) ks.length cg ks from ⟨hfr.1, hfr.2.below (HB5.out.mono (by omega))⟩)
            have HMK := Lib.hid ((HB5.out.cell (p := ⟨g, 0 + ks.length, none⟩) hgl).trans hmk)
            have HWD := Lib.hid (show ∀ z ∈ ks, wd1 ls z ≤ 40 from fun z _ => wd1_le HS40.out z)
            have hcl : wdT ls ks n2 = wdT ls ks ks.length := by rw [HKL.out]
            have hrw := rwords_any w5 _ _ _ _ _ _ _ _ _ _ (HR.out.keep HW5.out) (show RI w5 w.heap.size A2 n2 c2 ks from ⟨HK.out.1, HK.out.2.below HW5.out⟩) HWD.out (by omega)
            rw [hcl] at hrw
            have HRW := Lib.hid hrw
            have HKL5 := Lib.hid (show RI w5 w.heap.size A2 n2 c2 ks from ⟨HK.out.1, HK.out.2.below HW5.out⟩)
            clear hfr hmk hcl hrw
            go_wp2_with fail
            refine (words_any w5 _ _ _ _ _ _ _ _ _ _ (HR.out.keep HW5.out) HF5.out HWD.out (by have := HKL.out; omega)).mono ?_
            rintro e w6 ⟨rfl, rfl⟩
            dsimp only
            go_wp2_with fail
            refine HRW.out.mono ?_
            rintro e w6 ⟨rfl, rfl⟩
            dsimp only
            generalize wdT ls ks ks.length = wt at *
            go_wp2_with fail
            refine (Book.stays_any _ g 0 _ cg _ _ _ _ ks ks (.inr HF5.out) HKL5.out (by omega) hcm HMK.out).mono ?_
            rw [show decide (ks = ks) = true by simp]
            rintro e w6 ⟨rfl, d, rfl⟩
            dsimp only
            go_wp2_with fail
            go_ret
            exact ⟨rfl, below_drewN HW5.out d⟩

theorem walk (a s : Int) (A : Option Addr) (n c : Nat) (ls : List (List Int)) (A2 : Option Addr) (n2 c2 : Nat) (ks : List Int) (w : World) (wa : (Lit.int .i64 a).wf = true) (_ws : (Lit.int .i64 s).wf = true)
    (h : RS w w.heap.size A n c ls) (l : ks.length = n2) (_wx : ∀ z ∈ ks, (Lit.int .i64 z).wf = true) (h2 : Reads w w.heap.size 1 A2 n2 c2 (ks.map (.int .i64))) :
    Calls Try.prog 11 #[.int .i64 a, .int .i64 s, .slice A n c, .slice A2 n2 c2] w fun e w' => e = .returned (.bool true) ∧ Below w.heap.size w w' := by
  by_cases hs : 30 < n ∨ 40 < n2
  · exact early a s A n c A2 n2 c2 w (by have := h.2.1; have := h.2.2.1; unfold maxLen at this; omega) (by have := h2.1; have := h2.2.1; unfold maxLen at this; omega) hs
  · exact core a s A n c A2 n2 c2 ls ks w wa h ⟨l, h2⟩ (by omega) (by omega)
end Go.Proofs.Ytpdleckflcangaa.ShapeTells
