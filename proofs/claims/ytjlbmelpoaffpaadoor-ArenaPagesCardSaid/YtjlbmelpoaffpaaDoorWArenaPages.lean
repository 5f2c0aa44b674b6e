/- The walk of besomlaw6.ArenaPages: it returns true, and writes nothing that was there. -/
import Derived.Test.YtjlbmelpoaffpaaDoorArP
namespace Go.Proofs.YtjlbmelpoaffpaaDoor.ArenaPages
open Go.RowKit Pg Ar
set_option linter.unusedSimpArgs false
set_option linter.unusedVariables false

theorem slot_first {ps : List (Option PM)} {p : PM} (h : get ps 0 = some p) (hU : p.U.testBit 0 = true) (h1 : 0 < Cls.csl p.c) (h2 : 0 < Cls.csz p.c) : slot ps 1048576 = some (0, p, 0) := by
  have e0 : ((1048576 : Int) - 1048576) / 32 = 0 := by decide
  have e1 : ((1048576 : Int) - 1048576) % 32 = 0 := by decide
  unfold slot
  rw [if_neg (by decide), e0, h, e1]
  dsimp only
  rw [Int.zero_ediv, if_pos ⟨Int.mul_pos h1 h2, (at_nat (k := 0)).trans hU⟩]
  rfl
theorem base_first {ps : List (Option PM)} {p : PM} (h : get ps 0 = some p) (h1 : 0 < p.n) : base ps ((0 : Nat) : Int) ((0 : Nat) : Int) = 1048576 := by
  rw [base_some (show get ps ((0 : Nat) : Int) = some p from h), if_pos (by omega)]
  simp
theorem get_set0 {ps : List (Option PM)} (h : 0 < ps.length) (p : Option PM) : get (ps.set 0 p) 0 = p := by
  have := get_nat (ps.set 0 p) 0
  rw [List.getElem?_set_self h] at this
  exact this
set_option maxRecDepth 100000 in
set_option maxHeartbeats 4000000 in
theorem core (n : Nat) (c d : Int) (m m2 : Nat) (w : World) (hT : Tab w) (hn1 : 1 ≤ n) (hn : n ≤ 10) (hc : Cls.csl c = (m : Int)) (hm : 0 < m) (hd : Cls.csl d = (m2 : Int)) (hm2 : 0 < m2) (hzc : (Cls.csz c == 0) = false) (hzd : (Cls.csz d == 0) = false) :
    Calls Tryd.prog 8 #[.int .i64 n, .int .i64 c, .int .i64 d] w fun e w' => e = .returned (.bool true) ∧ Below w.heap.size w w' := by
  have HT := Lib.hid hT
  have hw0 := hT.1
  have HC := Lib.hid hc
  have HD := Lib.hid hd
  have n1 : (1 : Int) ≤ (n : Int) := by omega
  have n2 : (n : Int) ≤ 10 := by omega
  clear hT hc hd
  go_enter Tryd.func8, Tryd.ntmps8
  go_wp2_with fail
  refine (Cls.rsize_any _ _).mono ?_
  rintro e w1 ⟨rfl, hb1⟩
  dsimp only
  go_wp2_with fail
  refine (Cls.rsize_any _ _).mono ?_
  rintro e w2 ⟨rfl, hb2⟩
  dsimp only
  go_wp2_with fail
  refine (alive _ (HT.out.call (fresh_call hb1 hb2))).mono ?_
  rintro e w3 ⟨rfl, hb3⟩
  have HB3 := Lib.hid (fresh_call (fresh_call hb1 hb2) hb3)
  clear hb1 hb2 hb3
  dsimp only
  go_wp2_with fail
  refine (new_any _ _).mono ?_
  rintro e w4 hmade
  obtain ⟨b, gp, gw, rfl, ha⟩ := AW.made (HT.out.call HB3.out) hmade
  rw [show (min (max (n : Int) 0) 64).toNat = n by omega] at ha
  have H4 := Lib.hid (show AW w w4 b gp gw (List.replicate n none) (List.replicate (32 * n) 0) from ⟨ha.ar, fun i hi => Nat.le_trans HB3.out.size (ha.new i hi), below_call HB3.out HB3.out.size ha.bel, ha.tab⟩)
  clear ha hmade HB3
  dsimp only
  go_wp2_with fail
  go_loopw [8] (fun i wr => ∃ (j : Nat) (ps : List (Option PM)) (ws : List Int), j ≤ n ∧ i = .int .i64 j ∧ Filled ps n j c m ∧ nf ps + j = n ∧ AW w wr b gp gw ps ws) (fun i _ => n - (intOf i).toNat)
  case atStart => exact ⟨0, _, _, Nat.zero_le _, rfl, Filled.start n c m, by rw [nf_start]; rfl, H4.out⟩
  case round =>
    obtain ⟨j, ps, ws, hj, rfl, hfil, hnf, haw⟩ := hrel
    have HF := Lib.hid hfil
    have HA := Lib.hid haw
    clear hfil haw H4
    by_cases hlt : j < n
    · have h3 : (j : Int) < (n : Int) := by omega
      have hnfi : ((nf ps : Nat) : Int) = (n : Int) - (j : Int) := by omega
      have hpl := HF.out.len
      go_wp2_with fail
      refine (room_any _ _ _ _ _ _ HA.out.ar).mono ?_
      rw [hpl, hnfi]
      rintro e w5 ⟨rfl, dd, rfl⟩
      have H5 := Lib.hid (HA.out.drewN dd)
      generalize wr.drewN dd = w5 at *
      dsimp only
      go_wp2_with fail
      refine (grow_any _ _ _ _ _ c m _ H5.out.ar HC.out hm).mono ?_
      rintro e w6 hg
      obtain ⟨rfl, bp, hbp, ha, hk⟩ := grew_is hg (k := j) (HF.out.none_ j (Nat.le_refl _) hlt) (fun i hi e => by obtain ⟨q, hq⟩ := HF.out.some_ i hi; rw [hq] at e; simp at e)
      have H6 := Lib.hid (H5.out.step hw0 ha hk (fun i e => e ▸ H5.out.new gp (.inr (.inl rfl))) (H5.out.foot_set (fun q e => by injection e with e; subst e; exact Nat.le_trans H5.out.bel.size hbp)))
      have HN := Lib.hid (nf_set ps j ⟨bp, c, m, 0, 0⟩ (HF.out.none_ j (Nat.le_refl _) hlt))
      clear ha hk hg
      dsimp only
      go_wp2_with fail
      go_roundw
      case rel => exact ⟨j + 1, _, _, by omega, rfl, HF.out.next hlt bp, by have := HN.out; omega, H6.out⟩
      case measure => simp [intOf]; omega
    · obtain rfl : j = n := by omega
      obtain ⟨bp, hp0⟩ := HF.out.some_ 0 (by omega)
      obtain ⟨z, hz⟩ := take_slot HC.out hm
      have hbp := HA.out.new bp (.inr (.inr (.inr ⟨0, ⟨bp, c, m, 0, 0⟩, hp0, rfl⟩)))
      go_wp2_with fail
      refine (take_any _ _ _ _ _ c _ HA.out.ar HA.out.tab (HA.out.foot0 hw0)).mono ?_
      rintro e w5 hg
      obtain ⟨rfl, ha, hk⟩ := took_is hg (k := 0) (s := 0) (z := z) (p := ⟨bp, c, m, 0, 0⟩) hp0 rfl (fun i hi => by omega) hm (show Nat.testBit 0 0 = false by decide) (fun i hi => by omega) hz
      have H5 := Lib.hid (HA.out.step hw0 ha hk (fun i e => by rcases e with e | e <;> subst e; exact hbp; exact HA.out.new _ (.inr (.inr (.inl rfl)))) (HA.out.foot_set (fun q e => by injection e with e; subst e; exact hbp)))
      clear ha hk hg
      rw [show ((1048576 + 32 * 0 + 0 * z : Nat) : Int) = 1048576 by omega]
      dsimp only
      go_wp2_with fail
      have HG := Lib.hid (show ∀ i : Nat, (ps.set 0 (some (⟨bp, c, m, ins 0 0, del 0 0⟩ : PM)))[i]? ≠ some none from fun i e => by
        by_cases h0 : 0 = i
        · subst h0
          rw [List.getElem?_set] at e
          simp at e
        · rw [List.getElem?_set_ne h0] at e
          have hi := (List.getElem?_eq_some_iff.1 e).1
          rw [HF.out.len] at hi
          obtain ⟨q, hq⟩ := HF.out.some_ i hi
          rw [hq] at e
          simp at e)
      refine (grow_any _ _ _ _ _ d m2 _ H5.out.ar HD.out hm2).mono ?_
      rintro e w6 hg
      obtain ⟨rfl, hb6⟩ := grew_no hg HG.out
      have H6 := Lib.hid (H5.out.call hb6)
      clear hg hb6 H5
      dsimp only
      go_wp2_with fail
      have hl0 : 0 < ps.length := by rw [HF.out.len]; omega
      have HG0 := Lib.hid (show get (ps.set 0 (some (⟨bp, c, m, ins 0 0, del 0 0⟩ : PM))) 0 = some ⟨bp, c, m, ins 0 0, del 0 0⟩ from by
        have := get_nat (ps.set 0 (some (⟨bp, c, m, ins 0 0, del 0 0⟩ : PM))) 0
        rw [List.getElem?_set_self hl0] at this
        exact this)
      refine (drop_no _ _ _ _ _ 0 _ H6.out.ar (fun q e => by rw [HG0.out] at e; injection e with e; subst e; exact (show 0 < (Bit.bl (ins 0 0)).length by decide))).mono ?_
      rintro e w7 ⟨rfl, d7, rfl⟩
      have H7 := Lib.hid (H6.out.drewN d7)
      generalize w6.drewN d7 = w7 at *
      clear H6
      dsimp only
      go_wp2_with fail
      obtain ⟨W1, hW1⟩ : ∃ W1, clr ws (32 * 0 + 0 * z) z = W1 := ⟨_, rfl⟩
      rw [hW1] at H7
      clear hW1
      have hzp : (0 : Int) < Cls.csz c := by
        have h1 := (Cls.csz_bd c).1
        have h2 : Cls.csz c ≠ 0 := by simpa using hzc
        omega
      refine (free_yes _ _ _ _ _ 1048576 0 ⟨bp, c, m, ins 0 0, del 0 0⟩ 0 _ H7.out.ar (by decide) (slot_first HG0.out (show (ins 0 0).testBit 0 = true by decide) (by show 0 < Cls.csl c; rw [HC.out]; omega) hzp) (base_first HG0.out hm)).mono ?_
      rintro e w8 ⟨rfl, ha, hk⟩
      have H8' := Lib.hid (H7.out.step hw0 ha hk (fun i e => e ▸ hbp) (H7.out.foot_set (fun q e => by injection e with e; subst e; exact hbp)))
      clear ha hk
      have H8 := Lib.hid (show AW w w8 b gp gw (ps.set 0 (some ⟨bp, c, m, 0, 0⟩)) W1 from by
        have := H8'.out
        rw [List.set_set, show del (ins 0 0) 0 = 0 by decide, show del (del 0 0) 0 = 0 by decide] at this
        exact this)
      clear H8' H7 HG0 HG
      dsimp only
      go_wp2_with fail
      refine (drop_yes _ _ _ _ _ 0 ⟨bp, c, m, 0, 0⟩ _ H8.out.ar (List.getElem?_set_self hl0) (show (Bit.bl 0).length = 0 by decide)).mono ?_
      rintro e w9 ⟨rfl, ha, hk⟩
      have H9' := Lib.hid (H8.out.step hw0 ha hk (fun i e => e ▸ H8.out.new gp (.inr (.inl rfl))) (H8.out.foot_set (fun q e => by cases e)))
      clear ha hk
      have H9 := Lib.hid (show AW w w9 b gp gw (ps.set 0 none) W1 from by
        have := H9'.out
        rw [List.set_set] at this
        exact this)
      clear H9' H8
      dsimp only
      go_wp2_with fail
      refine (drop_no _ _ _ _ _ 0 _ H9.out.ar (fun q e => by rw [get_set0 hl0] at e; cases e)).mono ?_
      rintro e w10 ⟨rfl, d10, rfl⟩
      have H10 := Lib.hid (H9.out.drewN d10)
      generalize w9.drewN d10 = w10 at *
      clear H9
      dsimp only
      go_wp2_with fail
      refine (grow_any _ _ _ _ _ d m2 _ H10.out.ar HD.out hm2).mono ?_
      rintro e w11 hg
      obtain ⟨rfl, bq, hbq, ha, hk⟩ := grew_is hg (k := 0) (List.getElem?_set_self hl0) (fun i hi => by omega)
      have hbq0 := Nat.le_trans H10.out.bel.size hbq
      have H11' := Lib.hid (H10.out.step hw0 ha hk (fun i e => e ▸ H10.out.new gp (.inr (.inl rfl))) (H10.out.foot_set (fun q e => by injection e with e; subst e; exact hbq0)))
      clear ha hk hg
      have H11 := Lib.hid (show AW w w11 b gp gw (ps.set 0 (some ⟨bq, d, m2, 0, 0⟩)) W1 from by
        have := H11'.out
        rw [List.set_set] at this
        exact this)
      clear H11' H10
      dsimp only
      go_wp2_with fail
      refine (page_any _ _ _ _ _ 0 _ H11.out.ar).mono ?_
      rw [get_set0 hl0]
      rintro e w12 ⟨rfl, rfl⟩
      dsimp only [ptr]
      go_wp2_with fail
      obtain ⟨z2, hz2⟩ := take_slot HD.out hm2
      refine (take_any _ _ _ _ _ d _ H11.out.ar H11.out.tab (H11.out.foot0 hw0)).mono ?_
      rintro e w12 hg
      obtain ⟨rfl, ha, hk⟩ := took_is hg (k := 0) (s := 0) (z := z2) (p := ⟨bq, d, m2, 0, 0⟩) (List.getElem?_set_self hl0) rfl (fun i hi => by omega) hm2 (show Nat.testBit 0 0 = false by decide) (fun i hi => by omega) hz2
      have HP12 := Lib.hid (ha.page 0 ⟨bq, d, m2, ins 0 0, del 0 0⟩ (List.getElem?_set_self (by rw [List.length_set]; exact hl0))).1
      have H12 := Lib.hid (H11.out.step hw0 ha hk (fun i e => by rcases e with e | e <;> subst e; exact hbq0; exact H11.out.new _ (.inr (.inr (.inl rfl)))) (H11.out.foot_set (fun q e => by injection e with e; subst e; exact hbq0)))
      clear ha hk hg H11
      rw [show ((1048576 + 32 * 0 + 0 * z2 : Nat) : Int) = 1048576 by omega]
      dsimp only
      go_wp2_with fail
      refine (class_any _ _ _ _ _ _ HP12.out).mono ?_
      rintro e w13 ⟨rfl, rfl⟩
      dsimp only
      go_wp2_with fail
      go_ret
      exact ⟨by go_num, H12.out.bel⟩
set_option maxRecDepth 100000 in
theorem early (n c d : Int) (w : World) (hT : Tab w) (h : n < 1 ∨ 10 < n ∨ Cls.csz c = 0 ∨ Cls.csz d = 0) :
    Calls Tryd.prog 8 #[.int .i64 n, .int .i64 c, .int .i64 d] w fun e w' => e = .returned (.bool true) ∧ Below w.heap.size w w' := by
  have HT := Lib.hid hT
  clear hT
  by_cases h1 : n < 1
  · clear h
    go_enter Tryd.func8, Tryd.ntmps8
    go_wp2_with fail
    refine (alive _ HT.out).mono ?_
    rintro e w2 ⟨rfl, hb2⟩
    dsimp only
    go_wp2_with fail
    go_ret
    exact ⟨rfl, hb2⟩
  by_cases h2 : 10 < n
  · clear h
    go_enter Tryd.func8, Tryd.ntmps8
    go_wp2_with fail
    refine (alive _ HT.out).mono ?_
    rintro e w2 ⟨rfl, hb2⟩
    dsimp only
    go_wp2_with fail
    go_ret
    exact ⟨rfl, hb2⟩
  by_cases hc : Cls.csz c = 0
  · have HC := Lib.hid hc
    clear h hc
    go_enter Tryd.func8, Tryd.ntmps8
    go_wp2_with fail
    refine (Cls.rsize_any _ _).mono ?_
    rw [HC.out]
    rintro e w1 ⟨rfl, hb1⟩
    dsimp only
    go_wp2_with fail
    refine (alive _ (HT.out.call hb1)).mono ?_
    rintro e w2 ⟨rfl, hb2⟩
    dsimp only
    go_wp2_with fail
    go_ret
    exact ⟨rfl, fresh_call hb1 hb2⟩
  · have hd : Cls.csz d = 0 := by rcases h with h | h | h | h <;> first | exact h | exact absurd h (by assumption)
    have HD := Lib.hid hd
    have hzc : (Cls.csz c == 0) = false := by simpa using hc
    clear h hd hc
    go_enter Tryd.func8, Tryd.ntmps8
    go_wp2_with fail
    refine (Cls.rsize_any _ _).mono ?_
    rintro e w1 ⟨rfl, hb1⟩
    dsimp only
    go_wp2_with fail
    refine (Cls.rsize_any _ _).mono ?_
    rw [HD.out]
    rintro e w2 ⟨rfl, hb2⟩
    dsimp only
    go_wp2_with fail
    refine (alive _ (HT.out.call (fresh_call hb1 hb2))).mono ?_
    rintro e w3 ⟨rfl, hb3⟩
    dsimp only
    go_wp2_with fail
    go_ret
    exact ⟨rfl, fresh_call (fresh_call hb1 hb2) hb3⟩
theorem csl_pos {c : Int} (h : Cls.csz c ≠ 0) : ∃ m : Nat, Cls.csl c = (m : Int) ∧ 0 < m := by
  refine ⟨(Cls.csl c).toNat, ?_⟩
  rcases Cls.csz_cases c with h1 | h1 | rfl | rfl | rfl | rfl | rfl | rfl | rfl | rfl
  · exact absurd (Cls.csz_out (.inl h1)) h
  · exact absurd (Cls.csz_out (.inr h1)) h
  all_goals exact ⟨by decide, by decide⟩
theorem walk (n c d : Int) (w : World) (hT : Tab w) (_w0 : (Lit.int .i64 n).wf = true) (_w1 : (Lit.int .i64 c).wf = true) (_w2 : (Lit.int .i64 d).wf = true) : Calls Tryd.prog 8 #[.int .i64 n, .int .i64 c, .int .i64 d] w fun e w' => e = .returned (.bool true) ∧ Below w.heap.size w w' := by
  by_cases h : n < 1 ∨ 10 < n ∨ Cls.csz c = 0 ∨ Cls.csz d = 0
  · exact early n c d w hT h
  · have hc : Cls.csz c ≠ 0 := fun e => h (.inr (.inr (.inl e)))
    have hd : Cls.csz d ≠ 0 := fun e => h (.inr (.inr (.inr e)))
    obtain ⟨m, h1, h2⟩ := csl_pos hc
    obtain ⟨m2, h3, h4⟩ := csl_pos hd
    obtain ⟨k, rfl⟩ : ∃ k : Nat, n = k := ⟨n.toNat, by omega⟩
    exact core k c d m m2 w hT (by omega) (by omega) h1 h2 h3 h4 (by simpa using hc) (by simpa using hd)
end Go.Proofs.YtjlbmelpoaffpaaDoor.ArenaPages
