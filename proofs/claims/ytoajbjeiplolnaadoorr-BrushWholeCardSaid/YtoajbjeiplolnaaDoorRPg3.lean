/- Package page: the contracts of Take, Free, Mark. -/
import Derived.Test.YtoajbjeiplolnaaDoorRPg2
namespace Go.Proofs.YtoajbjeiplolnaaDoorR.Pg
open Go.RowKit Bit
set_option linter.unusedSimpArgs false
set_option linter.unusedVariables false

theorem ctz_free {U k : Nat} (hU : U < 4294967296) (hk : k < 32) (h1 : U.testBit k = false) (h2 : ∀ j, j < k → U.testBit j = true) : Lib.ctz 32 (4294967295 - U) = k := by
  apply ctz_unique (by omega)
  · rw [comp_bit U k hU, h1]; simp [hk]
  · intro j hj
    rw [comp_bit U j hU, h2 j hj]; simp
theorem ctz_full {U n : Nat} (hU : U < 4294967296) (hn : n ≤ 32) (h : ∀ j, j < n → U.testBit j = true) : n ≤ Lib.ctz 32 (4294967295 - U) := by
  by_cases h0 : 4294967295 - U = 0
  · rw [h0]; simp [Lib.ctz]; exact hn
  · obtain ⟨a, b, _⟩ := ctz_spec 32 (4294967295 - U) h0 (by omega)
    rw [comp_bit U _ hU] at b
    apply Nat.le_of_not_lt
    intro hlt
    rw [h _ hlt] at b
    simp at b
theorem PageAt.upd {w : World} {b n U M U' M' : Nat} {c : Int} (h : PageAt w b c n U M) (hU : U' < 4294967296) (hM : M' < 4294967296) (inU : ∀ i, U'.testBit i = true → i < n) (inM : ∀ i, M'.testBit i = true → U'.testBit i = true) :
    PageAt ((w.setCell ⟨b, 2, none⟩ (.int .u32 U')).setCell ⟨b, 3, none⟩ (.int .u32 M')) b c n U' M' :=
  ⟨((h.blk.set 2 _).set 3 _).of_eq (by simp), h.hn, h.n0, hU, hM, inU, inM⟩
theorem kept2 (w : World) (b : Nat) (u v : Value) : Kept (fun k => k = b) w ((w.setCell ⟨b, 2, none⟩ u).setCell ⟨b, 3, none⟩ v) := ((Kept.refl (fun k => k = b) w).set (p := ⟨b, 2, none⟩) (.inl rfl) u).set (p := ⟨b, 3, none⟩) (.inl rfl) v
set_option maxHeartbeats 1000000 in
theorem take_yes (b : Nat) (c : Int) (n U M k : Nat) (w : World) (h : PageAt w b c n U M) (hT : Tab w) (hk : k < n) (h1 : U.testBit k = false) (h2 : ∀ j, j < k → U.testBit j = true) :
    Calls Tryd.prog 71 #[.pointer (some ⟨b, 0, none⟩)] w fun e w' => e = .returned (.tuple #[.int .i64 k, .bool true]) ∧ PageAt w' b c n (ins U k) (del M k) ∧ Kept (fun i => i = b) w w' := by
  obtain ⟨c0, c1, c2, c3, f0, f1, f2, f3⟩ := h.blk.four
  have hk32 : k < 32 := by have := h.hn; omega
  have hx := not32 U h.hU
  have HC := Lib.hid (ctz_free h.hU hk32 h1 h2)
  have hor := or32 U (2 ^ k) h.hU (pow_lt hk32)
  have hand := andn32 M (2 ^ k) h.hM (pow_lt hk32)
  have hp := pow_ne k
  have hp2 : (((2 ^ k : Nat) : Int) == 0) = false := by have := Nat.two_pow_pos k; simp only [beq_eq_false_iff_ne, ne_eq]; omega
  have hUU := ins_lt h.hU hk32
  have hMM := del_lt k h.hM
  have HF := Lib.hid (show PageAt ((w.setCell ⟨b, 2, none⟩ (.int .u32 (ins U k : Nat))).setCell ⟨b, 3, none⟩ (.int .u32 (del M k : Nat))) b c n (ins U k) (del M k) from
    h.upd hUU hMM (fun i hi => by
      rw [ins_bit] at hi
      rcases Bool.or_eq_true_iff.1 hi with hi | hi
      · exact h.inU i hi
      · have := of_decide_eq_true hi; omega)
    (fun i hi => by
      rw [del_bit h.hM hk32] at hi
      rw [ins_bit]
      have := Bool.and_eq_true_iff.1 hi
      rw [h.inM i this.1]; rfl))
  have HT := Lib.hid hT
  have H := Lib.hid h
  have hle : 4294967295 - U < 4294967296 := by omega
  rw [show U ||| 2 ^ k = ins U k from rfl] at hor
  rw [show M &&& (4294967295 - 2 ^ k) = del M k from rfl] at hand
  generalize ins U k = U' at *
  generalize del M k = M' at *
  clear h hT h1 h2
  go_enter Tryd.func71, Tryd.ntmps71
  go_wp2_with fail
  refine (tz_any _ hle _ HT.out).mono ?_
  rw [HC.out]
  rintro e w1 ⟨rfl, rfl⟩
  dsimp only
  go_wp2_with fail
  refine (bit_yes _ _ _ _ _ _ _ H.out hk).mono ?_
  rintro e w1 ⟨rfl, rfl⟩
  dsimp only
  generalize ((2 ^ k : Nat) : Int) = z at *
  go_wp2_with fail
  go_ret2
  exact ⟨rfl, HF.out, kept2 w b _ _⟩
theorem take_no (b : Nat) (c : Int) (n U M : Nat) (w : World) (h : PageAt w b c n U M) (hT : Tab w) (h2 : ∀ j, j < n → U.testBit j = true) :
    Calls Tryd.prog 71 #[.pointer (some ⟨b, 0, none⟩)] w fun e w' => e = .returned (.tuple #[.int .i64 0, .bool false]) ∧ w = w' := by
  obtain ⟨c0, c1, c2, c3, f0, f1, f2, f3⟩ := h.blk.four
  have hx := not32 U h.hU
  have hle : 4294967295 - U < 4294967296 := by omega
  obtain ⟨k, hk⟩ : ∃ k, Lib.ctz 32 (4294967295 - U) = k := ⟨_, rfl⟩
  have HK := Lib.hid (show (k : Int) < 0 ∨ (n : Int) ≤ (k : Int) from .inr (by have := ctz_full h.hU h.hn h2; omega))
  have HC := Lib.hid hk
  have HT := Lib.hid hT
  have H := Lib.hid h
  clear h hT h2 hk
  go_enter Tryd.func71, Tryd.ntmps71
  go_wp2_with fail
  refine (tz_any _ hle _ HT.out).mono ?_
  rw [HC.out]
  rintro e w1 ⟨rfl, rfl⟩
  dsimp only
  go_wp2_with fail
  refine (bit_no _ _ _ _ _ _ _ H.out HK.out).mono ?_
  rintro e w1 ⟨rfl, rfl⟩
  dsimp only
  go_wp2_with fail
  go_ret2
  exact ⟨rfl, rfl⟩
theorem free_no (b : Nat) (c : Int) (n U M : Nat) (k : Int) (w : World) (h : PageAt w b c n U M) (hk : at_ U k = false) :
    Calls Tryd.prog 74 #[.pointer (some ⟨b, 0, none⟩), .int .i64 k] w fun e w' => e = .returned (.bool false) ∧ w = w' := by
  have HK := Lib.hid hk
  have H := Lib.hid h
  clear h hk
  go_enter Tryd.func74, Tryd.ntmps74
  go_wp2_with fail
  refine (used_any _ _ _ _ _ _ _ H.out).mono ?_
  rw [HK.out]
  rintro e w1 ⟨rfl, rfl⟩
  dsimp only
  go_wp2_with fail
  go_ret
  exact ⟨rfl, rfl⟩
theorem at_nat {U k : Nat} : at_ U (k : Int) = U.testBit k := by unfold at_; simp
set_option maxHeartbeats 1000000 in
theorem free_yes (b : Nat) (c : Int) (n U M k : Nat) (w : World) (h : PageAt w b c n U M) (hk : U.testBit k = true) :
    Calls Tryd.prog 74 #[.pointer (some ⟨b, 0, none⟩), .int .i64 k] w fun e w' => e = .returned (.bool true) ∧ PageAt w' b c n (del U k) (del M k) ∧ Kept (fun i => i = b) w w' := by
  have hkn := h.inU k hk
  have hk32 : k < 32 := by have := h.hn; omega
  have hand := andn32 U (2 ^ k) h.hU (pow_lt hk32)
  have hand2 := andn32 M (2 ^ k) h.hM (pow_lt hk32)
  rw [show U &&& (4294967295 - 2 ^ k) = del U k from rfl] at hand
  rw [show M &&& (4294967295 - 2 ^ k) = del M k from rfl] at hand2
  have hUU := del_lt k h.hU
  have hMM := del_lt k h.hM
  have HD := Lib.hid (show (∀ i, (del U k).testBit i = true → i < n) ∧ (∀ i, (del M k).testBit i = true → (del U k).testBit i = true) from
    ⟨fun i hi => by rw [del_bit h.hU hk32] at hi; exact h.inU i (Bool.and_eq_true_iff.1 hi).1,
     fun i hi => by rw [del_bit h.hM hk32] at hi; rw [del_bit h.hU hk32]; have := Bool.and_eq_true_iff.1 hi; rw [h.inM i this.1, this.2]; rfl⟩)
  have HA := Lib.hid (show at_ U (k : Int) = true from at_nat.trans hk)
  have HN := Lib.hid h.hn
  have HF := Lib.hid (fun (w' : World) (hb : Blk w' b #[.int .i64 c, .int .i64 n, .int .u32 (del U k : Nat), .int .u32 (del M k : Nat)] 120) => (⟨hb, h.hn, h.n0, hUU, hMM, HD.out.1, HD.out.2⟩ : PageAt w' b c n (del U k) (del M k)))
  obtain ⟨c0, c1, c2, c3, f0, f1, f2, f3⟩ := h.blk.four
  have H := Lib.hid h
  generalize del U k = U' at *
  generalize del M k = M' at *
  clear h hk
  go_enter Tryd.func74, Tryd.ntmps74
  go_wp2_with fail
  refine (used_any _ _ _ _ _ _ _ H.out).mono ?_
  rw [HA.out]
  rintro e w1 ⟨rfl, rfl⟩
  dsimp only
  go_wp2_with fail
  have H1 := Lib.hid (H.out.drewN 1)
  have c2' : w.drew.cell? ⟨b, 2, none⟩ = some (.int .u32 U) := c2
  generalize hz : ((2 ^ k : Nat) : Int) = z at *
  have HZ := Lib.hid hz
  clear hz
  go_region_with (go_at_call 115; refine (bit_yes _ _ _ _ _ _ _ H1.out hkn).mono ?_; rw [HZ.out]; rintro e w1 ⟨rfl, rfl⟩; dsimp only)
  all_goals
    have HB := Lib.hid (show Blk ((w.drewN 1).setCell ⟨b, 2, none⟩ (.int .u32 U')) b #[.int .i64 c, .int .i64 n, .int .u32 U', .int .u32 M] 120 from ((H.out.drewN 1).blk.set 2 _).of_eq (by simp))
    have HK := Lib.hid (show Kept (fun i => i = b) w ((w.drewN 1).setCell ⟨b, 2, none⟩ (.int .u32 U')) from ((Kept.refl (fun i => i = b) w).drewN 1).set (p := ⟨b, 2, none⟩) (.inl rfl) _)
    generalize (w.drewN 1).setCell ⟨b, 2, none⟩ (.int .u32 U') = w3 at *
    clear c0 c1 c2 c3 f0 f1 f2 f3 H H1 c2'
    obtain ⟨c0, c1, c2, c3, f0, f1, f2, f3⟩ := HB.out.four
    have HB1 := Lib.hid (show Blk (w3.drewN 1) b _ _ from HB.out)
    go_wp2_with fail
    go_region_with (go_at_call 115; refine (bit_at _ _ _ _ _ _ _ HB1.out HN.out hkn).mono ?_; rw [HZ.out]; rintro e w1 ⟨rfl, rfl⟩; dsimp only)
    all_goals
      go_wp2_with fail
      go_ret
      exact ⟨rfl, HF.out _ ((HB1.out.set 3 _).of_eq (by simp)), (HK.out.drewN 1).set (p := ⟨b, 3, none⟩) (.inl rfl) _⟩
end Go.Proofs.YtoajbjeiplolnaaDoorR.Pg
