/- Package sieve: the contracts of Next, Gap. -/
import Derived.Test.YtjlbmelpoaffpaaDoorSv4
namespace Go.Proofs.YtjlbmelpoaffpaaDoor.Sv
open Go.RowKit Bit Wd
set_option linter.unusedSimpArgs false
set_option linter.unusedVariables false

/-- The least number from f on of which p is true, or -1. -/
def Nxt (p : Nat → Bool) (f : Nat) (r : Int) : Prop := (r = -1 ∧ ∀ j, f ≤ j → p j = false) ∨ ∃ j : Nat, r = (j : Int) ∧ f ≤ j ∧ p j = true ∧ ∀ i, f ≤ i → i < j → p i = false
theorem Nxt.uniq {p : Nat → Bool} {f : Nat} {r s : Int} (h : Nxt p f r) (k : Nxt p f s) : r = s := by
  rcases h with ⟨rfl, h⟩ | ⟨j, rfl, h1, h2, h3⟩ <;> rcases k with ⟨rfl, k⟩ | ⟨i, rfl, k1, k2, k3⟩
  · rfl
  · rw [h i k1] at k2; cases k2
  · rw [k j h1] at h2; cases h2
  · rcases Nat.lt_trichotomy i j with e | rfl | e
    · rw [h3 i k1 e] at k2; cases k2
    · rfl
    · rw [k3 j h1 e] at h2; cases h2
/-- What one word tells. -/
theorem word_some {p : Nat → Bool} {f k y : Nat} (hy : y < 18446744073709551616) (h0 : y ≠ 0) (hb : ∀ i, i < 64 → y.testBit i = (decide (f ≤ 64 * k + i) && p (64 * k + i))) (hp : ∀ j, f ≤ j → j < 64 * k → p j = false) :
    Lib.ctz 64 y < 64 ∧ Nxt p f ((64 * k + Lib.ctz 64 y : Nat) : Int) := by
  obtain ⟨a, b, c⟩ := ctz_spec 64 y h0 (by omega)
  rw [hb _ a] at b
  have b' := Bool.and_eq_true_iff.1 b
  refine ⟨a, .inr ⟨_, rfl, of_decide_eq_true b'.1, b'.2, fun i hi hlt => ?_⟩⟩
  by_cases h : i < 64 * k
  · exact hp i hi h
  · obtain ⟨q, rfl⟩ : ∃ q, i = 64 * k + q := ⟨i - 64 * k, by omega⟩
    have := c q (by omega)
    rw [hb q (by omega)] at this
    simpa [hi] using this
theorem word_none {p : Nat → Bool} {f k : Nat} (hb : ∀ i, i < 64 → (0 : Nat).testBit i = (decide (f ≤ 64 * k + i) && p (64 * k + i))) (hp : ∀ j, f ≤ j → j < 64 * k → p j = false) : ∀ j, f ≤ j → j < 64 * (k + 1) → p j = false := by
  intro j hj hlt
  by_cases h : j < 64 * k
  · exact hp j hj h
  · obtain ⟨q, rfl⟩ : ∃ q, j = 64 * k + q := ⟨j - 64 * k, by omega⟩
    have := hb q (by omega)
    rw [Nat.zero_testBit] at this
    simpa [hj] using this.symm
theorem has_over {W : List Nat} {j : Nat} (h : 64 * W.length ≤ j) : has W j = false := by
  unfold has
  simp [List.getD, List.getElem?_eq_none (show W.length ≤ j / 64 by omega)]
/-- The word as Next masks it. -/
theorem next_bits {W : List Nat} {f k x : Nat} (hx : W[k]? = some x) (hk : f / 64 ≤ k) (y : Nat) (hy : y = if k = f / 64 then x &&& mk ((f % 64 : Nat) : Int) 64 else x) : ∀ i, i < 64 → y.testBit i = (decide (f ≤ 64 * k + i) && has W (64 * k + i)) := by
  intro i hi
  rw [has_word hx hi, hy]
  by_cases h : k = f / 64
  · rw [if_pos h, Nat.testBit_and, mk_bit _ _ hi]
    have e1 : decide ((i : Int) < 64) = true := by simp; omega
    rw [e1, Bool.and_true, Bool.and_comm]
    congr 1
    congr 1
    apply propext
    omega
  · rw [if_neg h]
    have e1 : decide (f ≤ 64 * k + i) = true := by simp; omega
    rw [e1, Bool.true_and]
theorem andf (f : Nat) (hf : f ≤ 9223372036854775807) : bits BinOp.and IntKind.i64 (f : Int) 63 = ((f % 64 : Nat) : Int) :=
  (bits_mask .i64 63 (by decide) (fun n h0 h1 => by rw [IntKind.wrap_i64]; omega) 6 (by decide) (f : Int) (by omega) (by omega)).trans rfl
theorem eq_div (k f : Nat) : (((k : Int) == (f : Int) / 64) = true ↔ k = f / 64) := by
  rw [beq_iff_eq]
  omega
set_option maxHeartbeats 1000000 in
theorem next_any (b g n : Nat) (W : List Nat) (x : Int) (f : Nat) (hf : max x 0 = (f : Int)) (hx : x ≤ 9223372036854775807) (w : World) (h : SieveAt w b g n W) (hT : Tab w) :
    Calls Tryd.prog 14 #[.pointer (some ⟨b, 0, none⟩), .int .i64 x] w fun e w' => ∃ r, e = .returned (.int .i64 r) ∧ Nxt (has W) f r ∧ w = w' := by
  have H := Lib.hid h
  have HT := Lib.hid hT
  obtain ⟨c0, c1, f0, f1⟩ := h.blk.two
  have hwl : W.length ≤ 64 := by have := h.hn; rw [h.hw]; omega
  have HF := Lib.hid (andf f (by omega))
  have hf2 : (0 : Int) ≤ (f : Int) := by omega
  have hf3 : (f : Int) ≤ 9223372036854775807 := by omega
  clear h hT
  go_enter Tryd.func14, Tryd.ntmps14
  go_upto_region 3 with (fail)
  go_cut [1] from 9 to 10 (fun p wx => p = .int .i64 (f : Int) ∧ wx = w)
  case first =>
    by_cases hx0 : x < 0
    · have HE := Lib.hid (show (0 : Int) = (f : Int) by omega)
      clear hf hf2 hf3
      go_wp2_with fail
      go_meet
      exact ⟨by rw [← HE.out], rfl⟩
    · have e : x = (f : Int) := by omega
      subst e
      clear hf
      go_wp2_with fail
      go_meet
      exact ⟨rfl, rfl⟩
  case rest =>
    obtain ⟨rfl, rfl⟩ := hcut
    clear hf hx
    go_wp2_with fail
    go_loopw [5] (fun i wr => ∃ k : Nat, i = .int .i64 (k : Int) ∧ f / 64 ≤ k ∧ (∀ j, f ≤ j → j < 64 * k → has W j = false) ∧ wc = wr) (fun i _ => W.length - (intOf i).toNat)
    case atStart => exact ⟨f / 64, rfl, Nat.le_refl _, fun j h1 h2 => by omega, rfl⟩
    case round =>
      obtain ⟨k, rfl, hk, hp, rfl⟩ := hrel
      have HP := Lib.hid hp
      clear hp
      by_cases hlt : k < W.length
      · obtain ⟨x, hx⟩ : ∃ x, W[k]? = some x := ⟨_, List.getElem?_eq_getElem hlt⟩
        have hc := (H.out.row.cell k).trans (cw_get hx)
        have HX := Lib.hid (H.out.lt _ _ hx)
        have h3 : (k : Int) < (W.length : Int) := by omega
        have h4 : (0 : Int) ≤ (k : Int) := by omega
        have hb := next_bits hx hk
        have HB := Lib.hid hb
        clear hb hx
        by_cases hkf : k = f / 64
        · have he := (eq_div k f).2 hkf
          have hc' : wc.cell? ⟨g, f / 64, none⟩ = some (.int .u64 (x : Int)) := by rw [← hkf]; exact hc
          obtain ⟨y, hy⟩ : ∃ y, x &&& mk ((f % 64 : Nat) : Int) 64 = y := ⟨_, rfl⟩
          have HY := Lib.hid (HB.out y (by rw [if_pos hkf, hy]))
          have HYL := Lib.hid (show y < 18446744073709551616 from hy ▸ and_lt HX.out)
          have HA := Lib.hid (show bits BinOp.and IntKind.u64 (x : Int) ((mk ((f % 64 : Nat) : Int) 64 : Nat) : Int) = (y : Int) from (and64 _ _ HX.out (mk_lt _ _)).trans (by rw [hy]))
          have HM := Lib.hid (mask_any ((f % 64 : Nat) : Int) 64 wc)
          generalize mk ((f % 64 : Nat) : Int) 64 = mm at *
          clear hy HB
          by_cases hy0 : y = 0
          · have hyb : ((y : Int) != 0) = false := by simp [hy0]
            have HN := Lib.hid (word_none (p := has W) (f := f) (k := k) (by rw [hy0] at HY; exact HY.out) HP.out)
            go_wp2_with (simp only [HF.out])
            refine HM.out.mono ?_
            rintro e w1 ⟨rfl, rfl⟩
            dsimp only
            go_wp2_with (simp only [HA.out])
            go_roundw
            case rel => exact ⟨k + 1, by go_num, by omega, HN.out, trivial⟩
            case measure => simp [intOf]; omega
          · have hyb : ((y : Int) != 0) = true := by simp; omega
            obtain ⟨hz, hn⟩ := word_some (p := has W) (f := f) (k := k) HYL.out hy0 HY.out HP.out
            have HZ := Lib.hid (tz_any y HYL.out hy0 _ (HT.out.drewN 0))
            have HN := Lib.hid hn
            generalize Lib.ctz 64 y = t at *
            have hw1 : wrap64 ((k : Int) * 64 + (t : Int)) = ((64 * k + t : Nat) : Int) := by rw [wrap64_id (by omega)]; omega
            go_wp2_with (simp only [HF.out])
            refine HM.out.mono ?_
            rintro e w1 ⟨rfl, rfl⟩
            dsimp only
            go_wp2_with (simp only [HA.out])
            refine HZ.out.mono ?_
            rintro e w2 ⟨rfl, rfl⟩
            dsimp only
            go_wp2_with (simp only [hw1])
            go_ret
            exact ⟨_, rfl, Eq.mp (congrArg (Nxt _ f) (by omega)) HN.out, rfl⟩
        · have he : ((k : Int) == (f : Int) / 64) = false := by
            cases e : ((k : Int) == (f : Int) / 64)
            · rfl
            · exact absurd ((eq_div k f).1 e) hkf
          obtain ⟨y, rfl⟩ : ∃ y, y = x := ⟨x, rfl⟩
          have HY := Lib.hid (HB.out y (by rw [if_neg hkf]))
          have HYL := HX
          have HA := HX
          clear HB
          by_cases hy0 : y = 0
          · have hyb : ((y : Int) != 0) = false := by simp [hy0]
            have HN := Lib.hid (word_none (p := has W) (f := f) (k := k) (by rw [hy0] at HY; exact HY.out) HP.out)
            skip
            go_wp2_with fail
            go_roundw
            case rel => exact ⟨k + 1, by go_num, by omega, HN.out, trivial⟩
            case measure => simp [intOf]; omega
          · have hyb : ((y : Int) != 0) = true := by simp; omega
            obtain ⟨hz, hn⟩ := word_some (p := has W) (f := f) (k := k) HYL.out hy0 HY.out HP.out
            have HZ := Lib.hid (tz_any y HYL.out hy0 _ (HT.out.drewN 0))
            have HN := Lib.hid hn
            generalize Lib.ctz 64 y = t at *
            have hw1 : wrap64 ((k : Int) * 64 + (t : Int)) = ((64 * k + t : Nat) : Int) := by rw [wrap64_id (by omega)]; omega
            skip
            go_wp2_with fail
            refine HZ.out.mono ?_
            rintro e w2 ⟨rfl, rfl⟩
            dsimp only
            go_wp2_with (simp only [hw1])
            go_ret
            exact ⟨_, rfl, Eq.mp (congrArg (Nxt _ f) (by omega)) HN.out, rfl⟩
      · go_wp2_with fail
        go_ret
        exact ⟨-1, rfl, .inl ⟨rfl, fun j hj => by
          by_cases h : j < 64 * k
          · exact HP.out j hj h
          · exact has_over (by omega)⟩, rfl⟩
/-- Is a number below n not in it? -/
def gapP (n : Nat) (W : List Nat) (j : Nat) : Bool := decide (j < n) && !has W j
/-- The word as Gap masks it. -/
theorem gap_bits {n : Nat} {W : List Nat} {f k x : Nat} (hx : W[k]? = some x) (hk : f / 64 ≤ k) (hx2 : x < 18446744073709551616) (y : Nat)
    (hy : y = if k = f / 64 then ((18446744073709551615 - x) &&& mk 0 ((n : Int) - (k : Int) * 64)) &&& mk ((f % 64 : Nat) : Int) 64 else (18446744073709551615 - x) &&& mk 0 ((n : Int) - (k : Int) * 64)) : ∀ i, i < 64 → y.testBit i = (decide (f ≤ 64 * k + i) && gapP n W (64 * k + i)) := by
  intro i hi
  have e0 : ((18446744073709551615 - x) &&& mk 0 ((n : Int) - (k : Int) * 64)).testBit i = gapP n W (64 * k + i) := by
    unfold gapP
    rw [has_word hx hi, Nat.testBit_and, comp_bit x i hx2, mk_bit _ _ hi]
    have e1 : decide (i < 64) = true := by simpa using hi
    have e2 : decide ((0 : Int) ≤ (i : Int)) = true := by simp
    rw [e1, e2, Bool.true_and, Bool.true_and, Bool.and_comm]
    congr 1
    congr 1
    apply propext
    omega
  rw [hy]
  by_cases h : k = f / 64
  · rw [if_pos h, Nat.testBit_and, mk_bit _ _ hi, e0]
    have e1 : decide ((i : Int) < 64) = true := by simp; omega
    rw [e1, Bool.and_true, Bool.and_comm]
    congr 1
    congr 1
    apply propext
    omega
  · rw [if_neg h, e0]
    have e1 : decide (f ≤ 64 * k + i) = true := by simp; omega
    rw [e1, Bool.true_and]
end Go.Proofs.YtjlbmelpoaffpaaDoor.Sv
