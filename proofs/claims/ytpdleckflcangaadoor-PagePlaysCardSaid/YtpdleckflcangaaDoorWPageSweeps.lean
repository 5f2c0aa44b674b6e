/- The walk of besomlaw5.PageSweeps: it returns true, and writes nothing that was there. -/
import Derived.Test.YtpdleckflcangaaDoorWPageFull
import Derived.Test.YtpdleckflcangaaDoorBookS
namespace Go.Proofs.YtpdleckflcangaaDoor.PageSweeps
open Go.RowKit Pg Bit PageFull
set_option linter.unusedSimpArgs false
set_option linter.unusedVariables false

theorem full_sl (n : Nat) (hn : n ≤ 32) : (bl (2 ^ n - 1)).length = n := by
  unfold bl
  rw [sl_short hn (fun i hi => by rw [full_bit]; simp; omega)]
  have : sl n (2 ^ n - 1).testBit = List.range n := by
    unfold sl
    rw [List.filter_eq_self]
    intro i hi
    rw [full_bit]
    simpa using hi
  rw [this, List.length_range]
theorem filt_len {α : Type} (l : List α) (p : α → Bool) : (l.filter fun i => !p i).length + (l.filter fun i => p i).length = l.length := by
  induction l with
  | nil => rfl
  | cons a l ih =>
    rw [List.filter_cons, List.filter_cons]
    cases h : p a
    · simp; omega
    · simp; omega
theorem bl_split (U M : Nat) (hU : U < 4294967296) (hM : M < 4294967296) (h : ∀ i, M.testBit i = true → U.testBit i = true) : (bl (U &&& (4294967295 - M))).length + (bl M).length = (bl U).length := by
  have e1 : bl (U &&& (4294967295 - M)) = (bl U).filter fun i => !M.testBit i := by
    unfold bl sl
    rw [List.filter_filter]
    apply List.filter_congr
    intro i _
    rw [andn_bit U M i hU hM, Bool.and_comm]
  have e2 : bl M = (bl U).filter fun i => M.testBit i := by
    unfold bl sl
    rw [List.filter_filter]
    apply List.filter_congr
    intro i _
    cases hh : M.testBit i
    · rfl
    · rw [h i hh]; rfl
  rw [e1, e2]
  exact filt_len (bl U) fun i => M.testBit i
theorem bl_ins (M k : Nat) (hM : M < 4294967296) (hk : k < 32) (h : M.testBit k = false) : (bl (ins M k)).length = (bl M).length + 1 := by
  have h1 := bl_split (ins M k) (2 ^ k) (ins_lt hM hk) (pow_lt hk) (fun i hi => by rw [pow_bit] at hi; rw [ins_bit]; have := of_decide_eq_true hi; subst this; simp)
  have h2 : bl (ins M k &&& (4294967295 - 2 ^ k)) = bl M := by
    unfold bl
    apply sl_congr
    intro i _
    rw [andn_bit _ _ i (ins_lt hM hk) (pow_lt hk), ins_bit, pow_bit]
    by_cases hik : k = i
    · subst hik; simp [h]
    · simp [hik]
  have h3 : bl (2 ^ k) = [k] := by
    unfold bl
    rw [sl_cons (n := 32) (k := k) (p := Nat.testBit (2 ^ k)) (q := fun _ => false) hk (by rw [pow_bit]; simp) (by intro j hj; rw [pow_bit]; simp; omega) (by intro i _; rw [pow_bit]; simp; omega)]
    rw [sl_nil (fun _ _ => rfl)]
  rw [h2, h3] at h1
  simp at h1
  omega
theorem and_sub (U M : Nat) (h : ∀ i, M.testBit i = true → U.testBit i = true) : U &&& M = M := by
  apply Nat.eq_of_testBit_eq
  intro i
  rw [Nat.testBit_and]
  cases hh : M.testBit i
  · simp
  · rw [h i hh]; rfl

set_option maxRecDepth 100000 in
theorem early (c : Int) (A : Option Addr) (n cc : Nat) (w : World) (hT : Tab w) (h : Cls.csz c = 0 ∨ 60 < n) :
    Calls Tryd.prog 4 #[.int .i64 c, .slice A n cc] w fun e w' => e = .returned (.bool true) ∧ Below w.heap.size w w' := by
  have HT := Lib.hid hT
  clear hT
  by_cases h0 : Cls.csz c = 0
  · have H := Lib.hid h0
    clear h h0
    go_enter Tryd.func4, Tryd.ntmps4
    go_wp2_with fail
    refine (Cls.rsize_any _ _).mono ?_
    rw [H.out]
    rintro e w1 ⟨rfl, hb1⟩
    dsimp only
    go_wp2_with fail
    refine (alive _ (HT.out.call hb1)).mono ?_
    rintro e w2 ⟨rfl, hb2⟩
    dsimp only
    go_wp2_with fail
    go_ret
    exact ⟨rfl, fresh_call hb1 hb2⟩
  · have h60 : (60 : Int) < (n : Int) := by omega
    have hz : (Cls.csz c == 0) = false := by simpa using h0
    clear h h0
    go_enter Tryd.func4, Tryd.ntmps4
    go_wp2_with fail
    refine (Cls.rsize_any _ _).mono ?_
    rintro e w1 ⟨rfl, hb1⟩
    dsimp only
    go_wp2_with fail
    refine (alive _ (HT.out.call hb1)).mono ?_
    rintro e w2 ⟨rfl, hb2⟩
    dsimp only
    go_wp2_with fail
    go_ret
    exact ⟨rfl, fresh_call hb1 hb2⟩
set_option maxRecDepth 100000 in
set_option maxHeartbeats 4000000 in
theorem core (c : Int) (A : Option Addr) (m cc : Nat) (xs : List Int) (n s : Nat) (w : World) (hT : Tab w) (hR : Book.RI w w.heap.size A m cc xs) (hm : m ≤ 60) (hc : Cls.csl c = (n : Int)) (hs : Cls.csz c = (s : Int)) (hn : 0 < n) (hn2 : n ≤ 32) (hs0 : 0 < s) (hd : 32 / s = n) :
    Calls Tryd.prog 4 #[.int .i64 c, .slice A m cc] w fun e w' => e = .returned (.bool true) ∧ Below w.heap.size w w' := by
  have HC := Lib.hid hc
  have HS := Lib.hid hs
  have HT := Lib.hid hT
  have HR := Lib.hid hR
  have hs1 : ((s : Int) == 0) = false := by simp; omega
  have hs2 : (0 : Int) ≤ (s : Int) := by omega
  have hs3 : (1 : Int) ≤ (s : Int) := by omega
  have hm1 : (m : Int) ≤ 60 := by omega
  have HD := Lib.hid (div_fact hd)
  clear hc hs hT hd hR
  go_enter Tryd.func4, Tryd.ntmps4
  go_wp2_with fail
  refine (Cls.rsize_any _ _).mono ?_
  rw [HS.out]
  rintro e w1 ⟨rfl, hb1⟩
  have HB1 := Lib.hid hb1
  clear hb1
  dsimp only
  go_wp2_with fail
  refine (alive _ (HT.out.call HB1.out)).mono ?_
  rintro e w2 ⟨rfl, hb2⟩
  have HB2 := Lib.hid (fresh_call HB1.out hb2)
  clear hb2 HB1
  dsimp only
  go_wp2_with fail
  refine (new_yes c n _ HC.out hn).mono ?_
  rintro e w3 ⟨rfl, hp, hb3⟩
  have H4 := Lib.hid (show PW w w3 w2.heap.size c n (2 ^ 0 - 1) 0 from ⟨hp, HB2.out.size, fresh_call HB2.out hb3, HT.out.call (fresh_call HB2.out hb3)⟩)
  clear hp hb3 HB2
  generalize w2.heap.size = b at *
  have hn1 : (1 : Int) ≤ (n : Int) := by omega
  have hn3 : (n : Int) ≤ 32 := by omega
  have hw0 := HT.out.1
  dsimp only
  go_wp2_with fail
  go_loopw [7, 8, 9, 10] (fun q i _ _ wr => ∃ j k : Nat, j ≤ 40 ∧ k ≤ n ∧ (k = j ∨ (k = n ∧ n ≤ j)) ∧ i = .int .i64 j ∧ q = .int .i64 k ∧ PW w wr b c n (2 ^ k - 1) 0) (fun _ i _ _ _ => 40 - (intOf i).toNat)
  case atStart => exact ⟨0, 0, by omega, by omega, .inl rfl, rfl, rfl, H4.out⟩
  case round =>
    obtain ⟨j, k, hj, hk, hjk, rfl, rfl, hp⟩ := hrel
    have H6 := Lib.hid hp
    have HJK := Lib.hid hjk
    clear hp H4 hjk
    by_cases hj4 : j < 40
    · have hj1 : (j : Int) < 40 := by omega
      have hj0 : (0 : Int) ≤ (j : Int) := by omega
      have hk0 : (0 : Int) ≤ (k : Int) := by omega
      have hk1 : (k : Int) ≤ 32 := by omega
      by_cases hlt : k < n
      · go_wp2_with fail
        refine (take_yes _ _ _ _ _ k _ H6.out.page H6.out.tab hlt (by rw [full_bit]; simp) (by intro j hj; rw [full_bit]; simpa using hj)).mono ?_
        rw [full_ins, del_zero]
        rintro e w5 ⟨rfl, hp, hkk⟩
        have H7 := Lib.hid (H6.out.upd hw0 hp hkk)
        clear hp hkk
        dsimp only
        go_wp2_with fail
        go_roundw
        case rel => exact ⟨j + 1, k + 1, by omega, by omega, by have := HJK.out; omega, by go_num, by go_num, H7.out⟩
        case measure => simp [intOf]; omega
      · obtain rfl : k = n := by omega
        go_wp2_with fail
        refine (take_no _ _ _ _ _ _ H6.out.page H6.out.tab (by intro j hj; rw [full_bit]; simpa using hj)).mono ?_
        rintro e w5 ⟨rfl, rfl⟩
        dsimp only
        go_wp2_with fail
        go_roundw
        case rel => exact ⟨j + 1, k, by omega, by omega, by have := HJK.out; omega, by go_num, rfl, H6.out⟩
        case measure => simp [intOf]; omega
    · obtain rfl : j = 40 := by omega
      obtain rfl : k = n := by have := HJK.out; omega
      have H7 := Lib.hid (show PW w wr b c k (2 ^ k - 1) 0 ∧ (bl 0).length = 0 from ⟨H6.out, by rw [bl_zero]; rfl⟩)
      clear H6
      go_wp2_with fail
      obtain ⟨wo, rfl⟩ : ∃ wo : World, wo = wr := ⟨_, rfl⟩
      go_loopw [11, 12] (fun q i wr => ∃ (t M mk : Nat), t ≤ m ∧ i = .int .i64 t ∧ q = .int .i64 mk ∧ mk ≤ t ∧ mk = (bl M).length ∧ PW w wr b c k (2 ^ k - 1) M) (fun _ i _ => m - (intOf i).toNat)
      case atStart => exact ⟨0, 0, 0, Nat.zero_le _, rfl, rfl, Nat.le_refl _, H7.out.2.symm, H7.out.1⟩
      case round =>
        obtain ⟨t, M, mk, ht, rfl, rfl, hmt, hmk, hp⟩ := hrel
        have H8 := Lib.hid hp
        have HMK := Lib.hid hmk
        have hmk1 : (mk : Int) ≤ 60 := by omega
        have hmk0 : (0 : Int) ≤ (mk : Int) := by omega
        clear hp hmk H7
        by_cases htm : t < m
        · have ht1 : (t : Int) < (m : Int) := by omega
          have ht0 : (0 : Int) ≤ (t : Int) := by omega
          obtain ⟨x, hx⟩ : ∃ x, xs[t]? = some x := ⟨_, List.getElem?_eq_getElem (by have := HR.out.1; omega)⟩
          obtain ⟨gb, off, rfl, hgb, hcx⟩ := (show Book.RI wr w.heap.size A m cc xs from ⟨HR.out.1, HR.out.2.below H8.out.bel⟩).at_ hx
          clear hx
          by_cases hmay : ∃ j : Nat, x = (j : Int) ∧ (2 ^ k - 1).testBit j = true ∧ M.testBit j = false
          · obtain ⟨j, rfl, hj1, hj2⟩ := hmay
            have HL := Lib.hid (bl_ins M j H8.out.page.hM (by rw [full_bit] at hj1; have := of_decide_eq_true hj1; omega) hj2)
            go_wp2_with fail
            refine (mark_yes _ _ _ _ _ j _ H8.out.page hj1 hj2).mono ?_
            rintro e w5 ⟨rfl, hp, hkk⟩
            have H9 := Lib.hid (H8.out.upd hw0 hp hkk)
            clear hp hkk hj1 hj2
            dsimp only
            go_wp2_with fail
            go_roundw
            case rel => exact ⟨t + 1, _, mk + 1, by omega, by go_num, by go_num, by omega, by rw [HL.out, HMK.out], H9.out⟩
            case measure => simp [intOf]; omega
          · have hno : (at_ (2 ^ k - 1) x && !at_ M x) = false := by
              cases h1 : at_ (2 ^ k - 1) x
              · rfl
              · have hx0 : 0 ≤ x := by unfold at_ at h1; have := Bool.and_eq_true_iff.1 h1; exact of_decide_eq_true this.1
                obtain ⟨j, rfl⟩ : ∃ j : Nat, x = j := ⟨x.toNat, by omega⟩
                rw [at_nat] at h1 ⊢
                cases h2 : M.testBit j
                · exact absurd ⟨j, rfl, h1, h2⟩ hmay
                · rfl
            clear hmay
            have HNO := Lib.hid hno
            clear hno
            go_wp2_with fail
            refine (mark_no _ _ _ _ _ x _ H8.out.page HNO.out).mono ?_
            rintro e w5 ⟨rfl, rfl⟩
            dsimp only
            go_wp2_with fail
            go_roundw
            case rel => exact ⟨t + 1, M, mk, by omega, by go_num, rfl, by omega, HMK.out, H8.out⟩
            case measure => simp [intOf]; omega
        · obtain rfl : t = m := by omega
          have htt : ¬ (t : Int) < (t : Int) := by omega
          have hb0 : b ≠ 0 := by have := H8.out.nb; omega
          have HSP := Lib.hid (bl_split (2 ^ k - 1) M H8.out.page.hU H8.out.page.hM H8.out.page.inM)
          have HFS := Lib.hid (full_sl k hn2)
          go_wp2_with fail
          refine (sweep_any _ _ _ _ _ _ H8.out.page H8.out.tab hb0).mono ?_
          unfold Swept
          rw [and_sub _ _ H8.out.page.inM]
          have HG := Lib.hid (show (bl ((2 ^ k - 1) &&& (4294967295 - M))).length + mk = k from by rw [HMK.out, HSP.out, HFS.out])
          generalize bl ((2 ^ k - 1) &&& (4294967295 - M)) = gone at *
          rintro e w5 ⟨a5, l5, w6, rfl, hp, ho, hkk, hs, hb⟩
          have H9 := Lib.hid (H8.out.sweep hw0 hp hkk hs hb)
          clear hp ho hkk hs hb H8 HSP
          dsimp only
          go_wp2_with fail
          refine (count_any _ _ _ _ _ _ H9.out.page).mono ?_
          rw [← HMK.out]
          rintro e w7 ⟨rfl, d, rfl⟩
          have H10 := Lib.hid (H9.out.drewN d)
          dsimp only
          go_wp2_with fail
          refine (sweep_any _ _ _ _ _ _ H10.out.page H10.out.tab hb0).mono ?_
          unfold Swept
          rw [show M &&& (4294967295 - 0) = M from by
            apply Nat.eq_of_testBit_eq
            intro i
            rw [andn_bit M 0 i H10.out.page.hU (by omega)]
            simp, show M &&& 0 = 0 by simp]
          rintro e w8 ⟨a8, l8, w9, rfl, hp, ho, hkk, hs, hb⟩
          rw [← HMK.out]
          have H11 := Lib.hid (H10.out.sweep hw0 hp hkk hs hb)
          clear hp ho hkk hs hb H10 H9
          dsimp only
          go_wp2_with fail
          refine (count_any _ _ _ _ _ _ H11.out.page).mono ?_
          rw [bl_zero]
          rintro e w10 ⟨rfl, d2, rfl⟩
          have H12 := Lib.hid (H11.out.drewN d2)
          simp only [List.length_nil]
          go_wp2_with fail
          refine (Cls.rsize_any _ _).mono ?_
          rw [HS.out]
          rintro e w11 ⟨rfl, hb11⟩
          have H13 := Lib.hid (H12.out.call hb11)
          have hd1 := HD.out
          have hg1 : ((gone.length : Int) == (k : Int) - (mk : Int)) = true := by have := HG.out; simp; omega
          have hg2 : (mk : Int) ≤ (k : Int) := by have := HG.out; omega
          clear hb11
          dsimp only
          go_wp2_with fail
          go_ret
          exact ⟨rfl, H13.out.bel⟩
theorem walk (c : Int) (A : Option Addr) (n cc : Nat) (xs : List Int) (w : World) (hT : Tab w) (_w0 : (Lit.int .i64 c).wf = true) (hl : xs.length = n) (_wl : ∀ x ∈ xs, (Lit.int .i64 x).wf = true) (hR : Reads w w.heap.size 1 A n cc (xs.map (.int .i64))) :
    Calls Tryd.prog 4 #[.int .i64 c, .slice A n cc] w fun e w' => e = .returned (.bool true) ∧ Below w.heap.size w w' := by
  by_cases h : Cls.csz c = 0 ∨ 60 < n
  · exact early c A n cc w hT h
  · obtain ⟨k, s, h1, h2, h3, h4, h5, h6⟩ := csz_csl c (fun e => h (.inl e))
    exact core c A n cc xs k s w hT ⟨hl, hR⟩ (by omega) h1 h2 h3 h4 h5 h6
end Go.Proofs.YtpdleckflcangaaDoor.PageSweeps
