/- Package sieve: the contracts of Gap, Clear, All; answers at nil. -/
import Derived.Test.YtjlbmelpoaffpaaDoorSv5
namespace Go.Proofs.YtjlbmelpoaffpaaDoor.Sv
open Go.RowKit Bit Wd
set_option linter.unusedSimpArgs false
set_option linter.unusedVariables false

set_option maxHeartbeats 1000000 in
set_option maxRecDepth 20000 in
theorem gap_any (b g n : Nat) (W : List Nat) (x : Int) (f : Nat) (hf : max x 0 = (f : Int)) (hx : x ≤ 9223372036854775807) (w : World) (h : SieveAt w b g n W) (hT : Tab w) :
    Calls Tryd.prog 16 #[.pointer (some ⟨b, 0, none⟩), .int .i64 x] w fun e w' => ∃ r, e = .returned (.int .i64 r) ∧ Nxt (gapP n W) f r ∧ Below w.heap.size w w' := by
  have H := Lib.hid h
  have HT := Lib.hid hT
  obtain ⟨c0, c1, f0, f1⟩ := h.blk.two
  have hn4 := h.hn
  have hwl : W.length ≤ 64 := by rw [h.hw]; omega
  have HF := Lib.hid (andf f (by omega))
  have hf2 : (0 : Int) ≤ (f : Int) := by omega
  have hf3 : (f : Int) ≤ 9223372036854775807 := by omega
  clear h hT
  go_enter Tryd.func16, Tryd.ntmps16
  go_upto_region 3 with (fail)
  go_cut [1] from 9 to 10 (fun p wx => p = .int .i64 (f : Int) ∧ wx = w)
  case first =>
    by_cases hx0 : x < 0
    · have HE := Lib.hid (show (0 : Int) = (f : Int) by omega)
      clear hf hf2 hf3
      go_wp2_with fail
      go_meet
      exact ⟨by rw [← HE.out], rfl⟩
    · have e : x = (f : Int) := by omega
      subst e
      clear hf
      go_wp2_with fail
      go_meet
      exact ⟨rfl, rfl⟩
  case rest =>
    obtain ⟨rfl, rfl⟩ := hcut
    clear hf hx
    go_wp2_with fail
    go_loopw [5] (fun i wr => ∃ k : Nat, i = .int .i64 (k : Int) ∧ f / 64 ≤ k ∧ (∀ j, f ≤ j → j < 64 * k → gapP n W j = false) ∧ Below wc.heap.size wc wr) (fun i _ => W.length - (intOf i).toNat)
    case atStart => exact ⟨f / 64, rfl, Nat.le_refl _, fun j h1 h2 => by omega, Below.refl _ _⟩
    case round =>
      obtain ⟨k, rfl, hk, hp, hbe⟩ := hrel
      have HP := Lib.hid hp
      have HBE := Lib.hid hbe
      have H1 := Lib.hid (H.out.call hbe)
      have HT1 := Lib.hid (HT.out.call hbe)
      obtain ⟨c0, c1, f0, f1⟩ := H1.out.blk.two
      have hbl := H1.out.blk.lt
      have hgl := H1.out.row.lt
      clear hp hbe
      by_cases hlt : k < W.length
      · obtain ⟨x, hx⟩ : ∃ x, W[k]? = some x := ⟨_, List.getElem?_eq_getElem hlt⟩
        have hc := (H1.out.row.cell k).trans (cw_get hx)
        have HX := Lib.hid (H.out.lt _ _ hx)
        have h3 : (k : Int) < (W.length : Int) := by omega
        have h4 : (0 : Int) ≤ (k : Int) := by omega
        have hb := gap_bits (n := n) hx hk HX.out
        have HB := Lib.hid hb
        have hnot := not64 x HX.out
        have HM0 := Lib.hid (fun y : Ext wr => y.call_same (mask_any 0 ((n : Int) - (k : Int) * 64) y.w))
        have hml := mk_lt 0 ((n : Int) - (k : Int) * 64)
        have HAN := Lib.hid (and64 (18446744073709551615 - x) (mk 0 ((n : Int) - (k : Int) * 64)) (by have := HX.out; omega) hml)
        have HML := Lib.hid hml
        generalize mk 0 ((n : Int) - (k : Int) * 64) = m0 at *
        obtain ⟨x', hx'⟩ : ∃ x', 18446744073709551615 - x = x' := ⟨_, rfl⟩
        have HXL := Lib.hid (show x' < 18446744073709551616 by omega)
        rw [hx'] at HAN HB hnot
        obtain ⟨y0, hy0⟩ : ∃ y0, x' &&& m0 = y0 := ⟨_, rfl⟩
        have HY0 := Lib.hid (show y0 < 18446744073709551616 from hy0 ▸ and_lt HXL.out)
        rw [hy0] at HAN HB
        have HNOT := Lib.hid hnot
        have han := HAN.out
        clear hb hx hx' hy0 hml hnot
        go_wp2_with fail
        refine Ext.region wr (by kernel_rfl) (by kernel_rfl) (Below.refl _ _) ?_
        repeat (go_big_quiet_step (first | (go_at_call 11; exact HM0.out _) | (simp only [HNOT.out])))
        rw [show (if IntKind.u64.signed = true then (-1 : Int) else IntKind.u64.max) = IntKind.u64.max from rfl, HNOT.out, HAN.out]
        refine wpQuiet_nil ?_
        rintro _ ⟨xq, rfl⟩
        have HBX := Lib.hid (fresh_call HBE.out xq.below)
        have HX1 := Lib.hid (H1.out.call xq.below)
        have HTX := Lib.hid (HT1.out.call xq.below)
        clear HNOT han HM0
        generalize xq.w = wx at *
        by_cases hkf : k = f / 64
        · have he := (eq_div k f).2 hkf
          obtain ⟨y, hy⟩ : ∃ y, y0 &&& mk ((f % 64 : Nat) : Int) 64 = y := ⟨_, rfl⟩
          have HY := Lib.hid (HB.out y (by rw [if_pos hkf, hy]))
          have HYL := Lib.hid (show y < 18446744073709551616 from hy ▸ and_lt HY0.out)
          have HA := Lib.hid (show bits BinOp.and IntKind.u64 (y0 : Int) ((mk ((f % 64 : Nat) : Int) 64 : Nat) : Int) = (y : Int) from (and64 _ _ HY0.out (mk_lt _ _)).trans (by rw [hy]))
          have HM := Lib.hid (mask_any ((f % 64 : Nat) : Int) 64 wx)
          generalize mk ((f % 64 : Nat) : Int) 64 = mm at *
          clear hy HB
          by_cases hyz : y = 0
          · have hyb : ((y : Int) != 0) = false := by simp [hyz]
            have HN := Lib.hid (word_none (p := gapP n W) (f := f) (k := k) (by rw [hyz] at HY; exact HY.out) HP.out)
            go_wp2_with (simp only [HF.out])
            refine HM.out.mono ?_
            rintro e w1 ⟨rfl, rfl⟩
            dsimp only
            go_wp2_with (simp only [HA.out])
            go_roundw
            case rel => exact ⟨k + 1, by go_num, by omega, HN.out, HBX.out⟩
            case measure => simp [intOf]; omega
          · have hyb : ((y : Int) != 0) = true := by simp; omega
            obtain ⟨hz, hn⟩ := word_some (p := gapP n W) (f := f) (k := k) HYL.out hyz HY.out HP.out
            have HZ := Lib.hid (tz_any y HYL.out hyz _ HTX.out)
            have HN := Lib.hid hn
            generalize Lib.ctz 64 y = t at *
            have hw1 : wrap64 ((k : Int) * 64 + (t : Int)) = ((64 * k + t : Nat) : Int) := by rw [wrap64_id (by omega)]; omega
            go_wp2_with (simp only [HF.out])
            refine HM.out.mono ?_
            rintro e w1 ⟨rfl, rfl⟩
            dsimp only
            go_wp2_with (simp only [HA.out])
            refine HZ.out.mono ?_
            rintro e w2 ⟨rfl, rfl⟩
            dsimp only
            go_wp2_with (simp only [hw1])
            go_ret
            exact ⟨_, rfl, Eq.mp (congrArg (Nxt _ f) (by omega)) HN.out, HBX.out⟩
        · have he : ((k : Int) == (f : Int) / 64) = false := by
            cases e : ((k : Int) == (f : Int) / 64)
            · rfl
            · exact absurd ((eq_div k f).1 e) hkf
          obtain ⟨y, rfl⟩ : ∃ y, y = y0 := ⟨y0, rfl⟩
          have HY := Lib.hid (HB.out y (by rw [if_neg hkf]))
          have HYL := HY0
          clear HB
          by_cases hyz : y = 0
          · have hyb : ((y : Int) != 0) = false := by simp [hyz]
            have HN := Lib.hid (word_none (p := gapP n W) (f := f) (k := k) (by rw [hyz] at HY; exact HY.out) HP.out)
            skip
            go_wp2_with fail
            go_roundw
            case rel => exact ⟨k + 1, by go_num, by omega, HN.out, HBX.out⟩
            case measure => simp [intOf]; omega
          · have hyb : ((y : Int) != 0) = true := by simp; omega
            obtain ⟨hz, hn⟩ := word_some (p := gapP n W) (f := f) (k := k) HYL.out hyz HY.out HP.out
            have HZ := Lib.hid (tz_any y HYL.out hyz _ HTX.out)
            have HN := Lib.hid hn
            generalize Lib.ctz 64 y = t at *
            have hw1 : wrap64 ((k : Int) * 64 + (t : Int)) = ((64 * k + t : Nat) : Int) := by rw [wrap64_id (by omega)]; omega
            skip
            go_wp2_with fail
            refine HZ.out.mono ?_
            rintro e w2 ⟨rfl, rfl⟩
            dsimp only
            go_wp2_with (simp only [hw1])
            go_ret
            exact ⟨_, rfl, Eq.mp (congrArg (Nxt _ f) (by omega)) HN.out, HBX.out⟩
      · go_wp2_with fail
        go_ret
        exact ⟨-1, rfl, .inl ⟨rfl, fun j hj => by
          by_cases h : j < 64 * k
          · exact HP.out j hj h
          · unfold gapP
            have := H.out.hw
            have : ¬ j < n := by omega
            simp [this]⟩, HBE.out⟩
theorem next_nil (x : Int) (w : World) : Calls Tryd.prog 14 #[.pointer none, .int .i64 x] w fun e w' => e = .returned (.int .i64 (-1)) ∧ w = w' := by
  go_enter Tryd.func14, Tryd.ntmps14
  go_wp2_with fail
  go_ret
  exact ⟨rfl, rfl⟩
theorem gap_nil (x : Int) (w : World) : Calls Tryd.prog 16 #[.pointer none, .int .i64 x] w fun e w' => e = .returned (.int .i64 (-1)) ∧ w = w' := by
  go_enter Tryd.func16, Tryd.ntmps16
  go_wp2_with fail
  go_ret
  exact ⟨rfl, rfl⟩
theorem all_nil (w : World) : Calls Tryd.prog 19 #[.pointer none] w fun e w' => e = .returned (.slice none 0 0) ∧ w = w' := by
  go_enter Tryd.func19, Tryd.ntmps19
  go_wp2_with fail
  refine (next_nil _ _).mono ?_
  rintro e w1 ⟨rfl, rfl⟩
  dsimp only
  go_wp2_with fail
  go_loopw [3, 4] (fun l k wr => l = .slice none 0 0 ∧ k = .int .i64 (-1) ∧ w = wr) (fun _ _ _ => 0)
  case atStart => exact ⟨rfl, rfl, rfl⟩
  case round =>
    obtain ⟨rfl, rfl, rfl⟩ := hrel
    go_wp2_with fail
    go_ret
    exact ⟨rfl, rfl⟩
end Go.Proofs.YtjlbmelpoaffpaaDoor.Sv
