/- Package besomref1: the contracts of Valid, IsPtr, IsLoc, Words, Shapes. -/
import Derived.Test.YtpdleckflcangaaShpW
namespace Go.Proofs.Ytpdleckflcangaa.Shp
open Go.RowKit Book
set_option linter.unusedSimpArgs false
set_option linter.unusedVariables false

theorem isptr_any (k : Int) (w : World) : Calls Try.prog 41 #[.int .i64 k] w fun e w' => e = .returned (.bool (isP k)) ∧ w = w' := by
  unfold isP
  by_cases h1 : k < 16
  · rw [show decide (16 ≤ k ∧ k < 32) = false by simp; omega]
    go_enter Try.func41, Try.ntmps41
    go_wp2_with fail
    go_ret
    exact ⟨rfl, rfl⟩
  by_cases h2 : k < 32
  · rw [show decide (16 ≤ k ∧ k < 32) = true by simp; omega]
    go_enter Try.func41, Try.ntmps41
    go_wp2_with fail
    go_ret
    exact ⟨rfl, rfl⟩
  · rw [show decide (16 ≤ k ∧ k < 32) = false by simp; omega]
    go_enter Try.func41, Try.ntmps41
    go_wp2_with fail
    go_ret
    exact ⟨rfl, rfl⟩
theorem isloc_any (k : Int) (w : World) : Calls Try.prog 42 #[.int .i64 k] w fun e w' => e = .returned (.bool (decide (64 ≤ k ∧ k < 80))) ∧ w = w' := by
  by_cases h1 : k < 64
  · rw [show decide (64 ≤ k ∧ k < 80) = false by simp; omega]
    go_enter Try.func42, Try.ntmps42
    go_wp2_with fail
    go_ret
    exact ⟨rfl, rfl⟩
  by_cases h2 : k < 80
  · rw [show decide (64 ≤ k ∧ k < 80) = true by simp; omega]
    go_enter Try.func42, Try.ntmps42
    go_wp2_with fail
    go_ret
    exact ⟨rfl, rfl⟩
  · rw [show decide (64 ≤ k ∧ k < 80) = false by simp; omega]
    go_enter Try.func42, Try.ntmps42
    go_wp2_with fail
    go_ret
    exact ⟨rfl, rfl⟩

theorem valid_split (k s : Int) : decide (0 < kof s true k) = (decide (0 < kof s false k) || decide (0 ≤ s) && decide (s ≤ 16) && decide (64 ≤ k) && decide (k < 64 + s)) := by
  unfold kof kd
  by_cases h : 0 ≤ s ∧ s ≤ 16
  · rw [if_pos h, if_pos h]
    by_cases h1 : k = 1 ∨ (16 ≤ k ∧ k < 16 + (s.toNat : Int)) ∨ (false = true ∧ 64 ≤ k ∧ k < 64 + (s.toNat : Int))
    · rw [if_pos h1, if_pos (by simp at h1 ⊢; omega)]
      simp
    · rw [if_neg h1]
      by_cases h2 : k = 1 ∨ (16 ≤ k ∧ k < 16 + (s.toNat : Int)) ∨ (true = true ∧ 64 ≤ k ∧ k < 64 + (s.toNat : Int))
      · rw [if_pos h2]
        simp at h1 h2 ⊢
        omega
      · rw [if_neg h2]
        simp at h1 h2 ⊢
        omega
  · rw [if_neg h, if_neg h]
    simp
    omega
theorem rvalid_any (k s : Int) (w : World) : Calls Try.prog 40 #[.int .i64 k, .int .i64 s] w fun e w' => e = .returned (.bool (decide (0 < kof s true k))) ∧ w = w' := by
  rw [valid_split]
  by_cases hF : decide (0 < kof s false k) = true
  · have HF := Lib.hid hF
    rw [HF.out, Bool.true_or]
    clear hF
    go_enter Try.func40, Try.ntmps40
    go_wp2_with fail
    refine (rfield_any _ _ _).mono ?_
    rw [HF.out]
    rintro e w1 ⟨rfl, rfl⟩
    dsimp only
    go_wp2_with fail
    go_ret
    exact ⟨rfl, rfl⟩
  have HF := Lib.hid (show decide (0 < kof s false k) = false by cases h : decide (0 < kof s false k); rfl; exact absurd h hF)
  rw [HF.out, Bool.false_or]
  clear hF
  by_cases h1 : s < 0
  · rw [show decide (0 ≤ s) = false by simp; omega]
    go_enter Try.func40, Try.ntmps40
    go_wp2_with fail
    refine (rfield_any _ _ _).mono ?_
    rw [HF.out]
    rintro e w1 ⟨rfl, rfl⟩
    dsimp only
    go_wp2_with fail
    go_ret
    exact ⟨rfl, rfl⟩
  rw [show decide (0 ≤ s) = true by simp; omega]
  by_cases h2 : 16 < s
  · rw [show decide (s ≤ 16) = false by simp; omega]
    go_enter Try.func40, Try.ntmps40
    go_wp2_with fail
    refine (rfield_any _ _ _).mono ?_
    rw [HF.out]
    rintro e w1 ⟨rfl, rfl⟩
    dsimp only
    go_wp2_with fail
    go_ret
    exact ⟨rfl, rfl⟩
  rw [show decide (s ≤ 16) = true by simp; omega]
  by_cases h4 : k < 64
  · rw [show decide (64 ≤ k) = false by simp; omega]
    go_enter Try.func40, Try.ntmps40
    go_wp2_with fail
    refine (rfield_any _ _ _).mono ?_
    rw [HF.out]
    rintro e w1 ⟨rfl, rfl⟩
    dsimp only
    go_wp2_with fail
    go_ret
    exact ⟨rfl, rfl⟩
  rw [show decide (64 ≤ k) = true by simp; omega]
  by_cases h5 : k < 64 + s
  · rw [show decide (k < 64 + s) = true by simp; omega]
    go_enter Try.func40, Try.ntmps40
    go_wp2_with fail
    refine (rfield_any _ _ _).mono ?_
    rw [HF.out]
    rintro e w1 ⟨rfl, rfl⟩
    dsimp only
    go_wp2_with fail
    go_ret
    first | exact ⟨rfl, rfl⟩ | exact ⟨ret_bool (by simp; omega), rfl⟩
  · rw [show decide (k < 64 + s) = false by simp; omega]
    go_enter Try.func40, Try.ntmps40
    go_wp2_with fail
    refine (rfield_any _ _ _).mono ?_
    rw [HF.out]
    rintro e w1 ⟨rfl, rfl⟩
    dsimp only
    go_wp2_with fail
    go_ret
    first | exact ⟨rfl, rfl⟩ | exact ⟨ret_bool (by simp; omega), rfl⟩

set_option maxHeartbeats 1000000 in
theorem rwords_any (w : World) (B B2 : Nat) (A A2 : Option Addr) (n c n2 c2 : Nat) (ls : List (List Int)) (ks : List Int) (h : RS w B A n c ls) (h2 : RI w B2 A2 n2 c2 ks) (hs : ∀ z ∈ ks, wd1 ls z ≤ 40) (hn2 : n2 ≤ 100) :
    Calls Try.prog 49 #[.slice A n c, .slice A2 n2 c2] w fun e w' => e = .returned (.int .i64 (wdT ls ks n2)) ∧ w = w' := by
  have hm : n ≤ 9223372036854775807 := by have := h.2.1; have := h.2.2.1; unfold maxLen at this; omega
  have HR := Lib.hid h
  have HK := Lib.hid h2
  have HS := Lib.hid hs
  have HN := Lib.hid h.1
  clear h h2 hs
  go_enter Try.func49, Try.ntmps49
  go_wp2_with fail
  go_loop [5, 6] (fun o i => ∃ j : Nat, j ≤ n2 ∧ i = .int .i64 j ∧ o = .int .i64 (wdT ls ks j)) (fun _ i => n2 - (intOf i).toNat)
  case atStart => exact ⟨0, Nat.zero_le _, rfl, rfl⟩
  case round =>
    obtain ⟨j, hj, rfl, rfl⟩ := hrel
    have HB := wdT_le HS.out j
    by_cases hlt : j < n2
    · have hjl : j < ks.length := by have := HK.out.1; omega
      have hjk : ks[j]? = some ks[j] := List.getElem?_eq_getElem hjl
      obtain ⟨b2, o2, rfl, hb2, hc2⟩ := HK.out.at_ hjk
      have HE := Lib.hid (show wdT ls ks (j + 1) = wdT ls ks j + wd1 ls ks[j] by rw [wdT, hjk]; rfl)
      clear hjk
      have h40 := HS.out ks[j] (List.getElem_mem hjl)
      generalize ks[j] = x at *
      generalize hT : wdT ls ks j = T at *
      have HT := Lib.hid hT
      clear hT
      by_cases hx : 0 ≤ x ∧ x < n
      · obtain ⟨hx0, hxn⟩ := hx
        have hxl : x.toNat < ls.length := by have := HN.out; omega
        have hxk : ls[x.toNat]? = some ls[x.toNat] := List.getElem?_eq_getElem hxl
        obtain ⟨b, off, A', c', rfl, hbb, hcell, hRI, hwf⟩ := HR.out.2.2.2 _ _ hxk
        have HW1 := Lib.hid (show wd1 ls x = ls[x.toNat].length by unfold wd1; rw [if_pos ⟨hx0, by have := HN.out; omega⟩, hxk]; rfl)
        rw [HW1.out] at h40
        generalize ls[x.toNat] = l at *
        clear hxk hRI hwf
        obtain ⟨y, rfl⟩ := Int.eq_ofNat_of_zero_le hx0
        simp only [Int.toNat_natCast] at hcell HW1
        go_wp2_with fail
        refine ⟨⟨j + 1, by omega, by go_num, ?_⟩, by simp [intOf]; omega⟩
        rw [HE.out, HW1.out]
        go_num
      · have hx2 : x < 0 ∨ n ≤ x := by omega
        have HW1 := Lib.hid (show wd1 ls x = 0 by unfold wd1; rw [if_neg (by have := HN.out; omega)])
        clear hx h40
        rcases hx2 with hx | hx
        all_goals
          go_wp2_with fail
          refine ⟨⟨j + 1, by omega, by go_num, ?_⟩, by simp [intOf]; omega⟩
          rw [HE.out, HW1.out, Nat.add_zero]
    · have hjn : j = n2 := by omega
      subst hjn
      generalize hT : wdT ls ks j = T at *
      have HT := Lib.hid hT
      clear hT
      go_wp2_with fail
      go_ret
      exact ⟨by rw [HT.out]; rfl, rfl⟩

theorem rshapes_many (w : World) (A : Option Addr) (n c : Nat) (hm : n ≤ 9223372036854775807) (h : 16 < n) :
    Calls Try.prog 48 #[.slice A n c] w fun e w' => e = .returned (.int .i64 1) ∧ w = w' := by
  go_enter Try.func48, Try.ntmps48
  go_wp2_with fail
  go_ret
  exact ⟨rfl, rfl⟩

set_option maxRecDepth 1000000 in
set_option maxHeartbeats 1000000 in
theorem rshapes_few (w : World) (B : Nat) (A : Option Addr) (n c : Nat) (ls : List (List Int)) (h : RS w B A n c ls) (hn : n ≤ 16) :
    Calls Try.prog 48 #[.slice A n c] w fun e w' => e = .returned (.int .i64 (chkL n ls)) ∧ w = w' := by
  have HR := Lib.hid h
  have HN := Lib.hid h.1
  clear h
  go_enter Try.func48, Try.ntmps48
  go_wp2_with fail
  go_loop [3] (fun i => ∃ k : Nat, k ≤ ls.length ∧ i = .int .i64 k ∧ chkL n ls = chkL n (ls.drop k)) (fun i => n - (intOf i).toNat)
  case atStart => exact ⟨0, Nat.zero_le _, rfl, rfl⟩
  case round =>
    obtain ⟨k, hk, rfl, hc⟩ := hrel
    have HC := Lib.hid hc
    clear hc
    by_cases hlt : k < n
    · have hkl : k < ls.length := by have := HN.out; omega
      have hlk : ls[k]? = some ls[k] := List.getElem?_eq_getElem hkl
      have hd := chkL_drop (n := n) hlk
      obtain ⟨b, off, A', c', rfl, hbb, hcell, hRI, hwf⟩ := HR.out.2.2.2 k _ hlk
      generalize ls[k] = l at *
      have HD := Lib.hid hd
      have HL := Lib.hid hRI
      have hlm : l.length ≤ 9223372036854775807 := by have := hRI.2.1; have := hRI.2.2.1; unfold maxLen at this; omega
      clear hd hRI hwf hlk
      by_cases h1 : l.length < 1
      · go_wp2_with fail
        go_ret
        refine ⟨ret_int ?_, rfl⟩
        rw [HC.out, HD.out, if_neg (by unfold chk1; rw [if_pos (.inl h1)]; decide)]
        unfold chk1; rw [if_pos (.inl h1)]
      by_cases h2 : 16 < l.length
      · go_wp2_with fail
        go_ret
        refine ⟨ret_int ?_, rfl⟩
        rw [HC.out, HD.out, if_neg (by unfold chk1; rw [if_pos (.inr h2)]; decide)]
        unfold chk1; rw [if_pos (.inr h2)]
      · go_wp2_with fail
        go_loop [4] (fun j => ∃ q : Nat, q ≤ l.length ∧ j = .int .i64 q ∧ ∀ z ∈ l.take q, 0 < kof n false z) (fun j => l.length - (intOf j).toNat)
        case atStart => exact ⟨0, Nat.zero_le _, rfl, by simp⟩
        case round =>
          obtain ⟨q, hq, rfl, hall⟩ := hrel
          have HA := Lib.hid hall
          clear hall
          by_cases hql : q < l.length
          · have hlq : l[q]? = some l[q] := List.getElem?_eq_getElem hql
            obtain ⟨b2, o2, rfl, hb2, hc2⟩ := HL.out.at_ hlq
            have HQ := Lib.hid hlq
            clear hlq
            generalize hzz : l[q] = z at *
            have HZZ := Lib.hid hzz
            clear hzz
            go_wp2_with fail
            refine (rfield_any _ _ _).mono ?_
            rintro e w3 ⟨rfl, rfl⟩
            dsimp only
            generalize hZ : decide (0 < kof n false z) = Z at *
            have HZ := Lib.hid hZ
            clear hZ
            cases Z
            · go_wp2_with fail
              go_ret
              refine ⟨ret_int ?_, rfl⟩
              have hno : chkF n l = false := by
                unfold chkF
                rw [List.all_eq_false]
                exact ⟨z, List.mem_iff_getElem?.2 ⟨q, HQ.out⟩, by rw [HZ.out]; decide⟩
              have h3 : chk1 n l = 3 := by unfold chk1; rw [if_neg (by omega), hno]; rfl
              rw [HC.out, HD.out, if_neg (by rw [h3]; decide), h3]
            · go_wp2_with fail
              refine ⟨⟨q + 1, by omega, by go_num, fun y hy => ?_⟩, by simp [intOf]; omega⟩
              rw [List.take_succ_eq_append_getElem hql] at hy
              rcases List.mem_append.1 hy with hy | hy
              · exact HA.out y hy
              · rw [List.mem_singleton.1 hy, HZZ.out]
                exact of_decide_eq_true HZ.out
          · have hql' : q = l.length := by omega
            subst hql'
            go_wp2_with fail
            have hyes : chkF n l = true := by
              unfold chkF
              rw [List.all_eq_true]
              intro y hy
              have := HA.out y (by rw [List.take_length]; exact hy)
              simpa using this
            have h0 : chk1 n l = 0 := by unfold chk1; rw [if_neg (by omega), hyes]; rfl
            refine ⟨⟨k + 1, by omega, by go_num, ?_⟩, by simp [intOf]; omega⟩
            rw [HC.out, HD.out, if_pos h0]
    · have hkk : k = ls.length := by have := HN.out; omega
      subst hkk
      go_wp2_with fail
      go_ret
      refine ⟨ret_int ?_, rfl⟩
      rw [HC.out, List.drop_length]
      rfl

theorem rshapes_any (w : World) (B : Nat) (A : Option Addr) (n c : Nat) (ls : List (List Int)) (h : RS w B A n c ls) :
    Calls Try.prog 48 #[.slice A n c] w fun e w' => e = .returned (.int .i64 (chk ls)) ∧ w = w' := by
  unfold chk
  rw [h.1]
  by_cases hn : 16 < n
  · rw [if_pos hn]
    exact rshapes_many w A n c (by have := h.2.1; have := h.2.2.1; unfold maxLen at this; omega) hn
  · rw [if_neg hn]
    exact rshapes_few w B A n c ls h (by omega)
end Go.Proofs.Ytpdleckflcangaa.Shp
