/- Package sieve: what a sieve is in memory; the contracts of may, Has, Word. -/
import Derived.Test.YtjlbmelpoaffpaaDoorSv
import Derived.Test.YtjlbmelpoaffpaaDoorExt
import Derived.Deep.QuietTactic
import Derived.BigQuiet
namespace Go.Proofs.YtjlbmelpoaffpaaDoor.Sv
open Go.RowKit Bit Wd
set_option linter.unusedSimpArgs false
set_option linter.unusedVariables false

def cw (W : List Nat) : Array Value := (W.map fun (x : Nat) => Value.int .u64 (x : Int)).toArray
theorem cw_get {W : List Nat} {k x : Nat} (h : W[k]? = some x) : (cw W)[k]? = some (.int .u64 (x : Int)) := by simp [cw, h]
theorem cw_size (W : List Nat) : (cw W).size = W.length := by simp [cw]
theorem cw_set (W : List Nat) (k x : Nat) : (cw W).setIfInBounds k (.int .u64 (x : Int)) = cw (W.set k x) := by simp [cw, List.map_set]
/-- Is a number in the words? -/
def has (W : List Nat) (j : Nat) : Bool := (W.getD (j / 64) 0).testBit (j % 64)
def hasI (W : List Nat) (k : Int) : Bool := decide (0 ≤ k) && has W k.toNat
theorem hasI_nat (W : List Nat) (k : Nat) : hasI W (k : Int) = has W k := by unfold hasI; simp
theorem has_get {W : List Nat} {j x : Nat} (h : W[j / 64]? = some x) : has W j = x.testBit (j % 64) := by unfold has; simp [List.getD, h]
/-- Block b is a sieve of numbers below n; block g has its words. -/
structure SieveAt (w : World) (b g n : Nat) (W : List Nat) : Prop where
  blk : Blk w b #[.int .i64 n, .slice (some ⟨g, 0, none⟩) W.length W.length] 75
  row : Blk w g (cw W) 23
  hn : n ≤ 4096
  hw : W.length = (n + 63) / 64
  lt : ∀ (k x : Nat), W[k]? = some x → x < 18446744073709551616
  inn : ∀ j, has W j = true → j < n
namespace SieveAt
variable {w w' : World} {b g n : Nat} {W : List Nat}
theorem keep (h : SieveAt w b g n W) (hb : ∀ i, i = b ∨ i = g → w'.heap[i]? = w.heap[i]?) : SieveAt w' b g n W :=
  ⟨(hb b (.inl rfl)).trans h.blk, (hb g (.inr rfl)).trans h.row, h.hn, h.hw, h.lt, h.inn⟩
theorem lt' (h : SieveAt w b g n W) {i : Nat} (hi : i = b ∨ i = g) : i < w.heap.size := by
  rcases hi with rfl | rfl
  · exact h.blk.lt
  · exact h.row.lt
theorem call (h : SieveAt w b g n W) (hb : Below w.heap.size w w') : SieveAt w' b g n W := h.keep fun i hi => hb.block i (h.lt' hi)
theorem drewN (h : SieveAt w b g n W) (k : Nat) : SieveAt (w.drewN k) b g n W := h.keep fun _ _ => rfl
theorem kept {S : Nat → Prop} (h : SieveAt w b g n W) (hk : Kept S w w') (hS : ¬ S b ∧ ¬ S g) : SieveAt w' b g n W :=
  h.keep fun i hi => hk.block i (h.lt' hi) (by rcases hi with rfl | rfl; exact hS.1; exact hS.2)
theorem word (h : SieveAt w b g n W) {j : Nat} (hj : j < n) : ∃ x, W[j / 64]? = some x ∧ x < 18446744073709551616 ∧ j / 64 < W.length := by
  have hl : j / 64 < W.length := by rw [h.hw]; omega
  exact ⟨W[j / 64], List.getElem?_eq_getElem hl, h.lt _ _ (List.getElem?_eq_getElem hl), hl⟩
end SieveAt
theorem may_any (b g n : Nat) (W : List Nat) (k : Int) (w : World) (h : SieveAt w b g n W) :
    Calls Tryd.prog 44 #[.pointer (some ⟨b, 0, none⟩), .int .i64 k] w fun e w' => e = .returned (.bool (decide (0 ≤ k ∧ k < (n : Int)))) ∧ w = w' := by
  obtain ⟨c0, c1, f0, f1⟩ := h.blk.two
  clear h
  by_cases h1 : k < 0
  · have e : decide (0 ≤ k ∧ k < (n : Int)) = false := by simp; omega
    rw [e]
    go_enter Tryd.func44, Tryd.ntmps44
    go_wp2_with fail
    go_ret
    exact ⟨rfl, rfl⟩
  by_cases h2 : k < (n : Int)
  · have e : decide (0 ≤ k ∧ k < (n : Int)) = true := by simp; omega
    rw [e]
    have h3 : 0 ≤ k := by omega
    go_enter Tryd.func44, Tryd.ntmps44
    go_wp2_with fail
    go_ret
    exact ⟨rfl, rfl⟩
  · have e : decide (0 ≤ k ∧ k < (n : Int)) = false := by simp; omega
    rw [e]
    have h3 : 0 ≤ k := by omega
    go_enter Tryd.func44, Tryd.ntmps44
    go_wp2_with fail
    go_ret
    exact ⟨rfl, rfl⟩
theorem may_nil (k : Int) (w : World) : Calls Tryd.prog 44 #[.pointer none, .int .i64 k] w fun e w' => e = .returned (.bool false) ∧ w = w' := by
  go_enter Tryd.func44, Tryd.ntmps44
  go_wp2_with fail
  go_ret
  exact ⟨rfl, rfl⟩
theorem and_case (U j : Nat) (hU : U < 18446744073709551616) (hj : j < 64) (b : Bool) (hb : U.testBit j = b) : (bits BinOp.and IntKind.u64 (U : Int) ((2 ^ j : Nat) : Int) != 0) = b := by
  rw [and64 _ _ hU (pow_lt hj)]
  cases b
  · rw [(and_pow U j).2 hb]; rfl
  · have : U &&& 2 ^ j ≠ 0 := fun e => by rw [(and_pow U j).1 e] at hb; cases hb
    simp only [bne_iff_ne, ne_eq]
    omega
theorem has_out (b g n : Nat) (W : List Nat) (k : Int) (w : World) (h : SieveAt w b g n W) (hk : ¬ (0 ≤ k ∧ k < (n : Int))) :
    Calls Tryd.prog 15 #[.pointer (some ⟨b, 0, none⟩), .int .i64 k] w fun e w' => e = .returned (.bool false) ∧ Below w.heap.size w w' := by
  have hm := fun x : Ext w => x.call_same (may_any b g n W k x.w (h.call x.below))
  rw [show decide (0 ≤ k ∧ k < (n : Int)) = false by simp; omega] at hm
  have HM := Lib.hid hm
  obtain ⟨c0, c1, f0, f1⟩ := h.blk.two
  have hb := h.blk.lt
  clear h hk hm
  go_enter Tryd.func15, Tryd.ntmps15
  go_wp2_with fail
  refine Ext.region w (by kernel_rfl) (by kernel_rfl) (Below.refl _ _) ?_
  repeat (go_big_quiet_step (first | (go_at_call 44; exact HM.out _)))
  refine wpQuiet_nil ?_
  rintro _ ⟨xq, rfl⟩
  have hxq := xq.below
  go_wp2_with fail
  go_ret
  exact ⟨rfl, hxq⟩
theorem has_in (b g n : Nat) (W : List Nat) (j : Nat) (w : World) (h : SieveAt w b g n W) (hj : j < n) :
    Calls Tryd.prog 15 #[.pointer (some ⟨b, 0, none⟩), .int .i64 j] w fun e w' => e = .returned (.bool (has W j)) ∧ Below w.heap.size w w' := by
  have hn := h.hn
  have hm' := fun x : Ext w => x.call_same (may_any b g n W j x.w (h.call x.below))
  rw [show decide (0 ≤ (j : Int) ∧ (j : Int) < (n : Int)) = true by simp; omega] at hm'
  have HM := Lib.hid hm'
  obtain ⟨x, hx, hx2, hl⟩ := h.word hj
  have hc : w.cell? ⟨g, j / 64, none⟩ = some (.int .u64 (x : Int)) := (h.row.cell _).trans (cw_get hx)
  rw [has_get hx]
  have hb' := fun y : Ext w => y.call_same (bit_any j (by omega) y.w)
  have hm := Nat.mod_lt j (show 0 < 64 by omega)
  generalize ht : x.testBit (j % 64) = t
  have hcs := and_case x (j % 64) hx2 hm t ht
  obtain ⟨c0, c1, f0, f1⟩ := h.blk.two
  have hb := h.blk.lt
  have hg := h.row.lt
  have hwl : W.length ≤ 64 := by rw [h.hw]; omega
  have hq : ((j / 64 : Nat) : Int) = (j : Int) / 64 := rfl
  have hq0 : (0 : Int) ≤ (j : Int) / 64 := by omega
  have hq1 : (j : Int) / 64 < (W.length : Int) := by omega
  generalize ((2 ^ (j % 64) : Nat) : Int) = z at *
  have HB := Lib.hid hb'
  clear h hx ht hm' hb'
  cases t
  all_goals
    go_enter Tryd.func15, Tryd.ntmps15
    go_wp2_with fail
    refine Ext.region w (by kernel_rfl) (by kernel_rfl) (Below.refl _ _) ?_
    repeat (go_big_quiet_step (first | (go_at_call 44; exact HM.out _) | (go_at_call 45; exact HB.out _)))
    refine wpQuiet_nil ?_
    rintro _ ⟨xq, rfl⟩
    have hxq := xq.below
    go_wp2_with fail
    go_ret
    exact ⟨rfl, hxq⟩
theorem hasI_out {w : World} {b g n : Nat} {W : List Nat} (h : SieveAt w b g n W) {k : Int} (hk : ¬ (0 ≤ k ∧ k < (n : Int))) : hasI W k = false := by
  unfold hasI
  by_cases h0 : 0 ≤ k
  · have : has W k.toNat = false := by
      cases e : has W k.toNat
      · rfl
      · have := h.inn _ e; omega
    rw [this]; simp
  · simp [h0]
theorem has_any (b g n : Nat) (W : List Nat) (k : Int) (w : World) (h : SieveAt w b g n W) :
    Calls Tryd.prog 15 #[.pointer (some ⟨b, 0, none⟩), .int .i64 k] w fun e w' => e = .returned (.bool (hasI W k)) ∧ Below w.heap.size w w' := by
  by_cases hk : 0 ≤ k ∧ k < (n : Int)
  · obtain ⟨j, rfl⟩ : ∃ j : Nat, k = j := ⟨k.toNat, by omega⟩
    rw [hasI_nat]
    exact has_in b g n W j w h (by omega)
  · rw [hasI_out h hk]
    exact has_out b g n W k w h hk
theorem has_nil (k : Int) (w : World) : Calls Tryd.prog 15 #[.pointer none, .int .i64 k] w fun e w' => e = .returned (.bool false) ∧ Below w.heap.size w w' := by
  have HM := Lib.hid (fun x : Ext w => x.call_same (may_nil k x.w))
  go_enter Tryd.func15, Tryd.ntmps15
  go_wp2_with fail
  refine Ext.region w (by kernel_rfl) (by kernel_rfl) (Below.refl _ _) ?_
  repeat (go_big_quiet_step (first | (go_at_call 44; exact HM.out _)))
  refine wpQuiet_nil ?_
  rintro _ ⟨xq, rfl⟩
  have hxq := xq.below
  go_wp2_with fail
  go_ret
  exact ⟨rfl, hxq⟩
/-- The word of a number, 0 if there is none. -/
def wordI (W : List Nat) (k : Int) : Nat := if 0 ≤ k then W.getD k.toNat 0 else 0
theorem wordI_get {W : List Nat} {k x : Nat} (h : W[k]? = some x) : wordI W (k : Int) = x := by unfold wordI; simp [List.getD, h]
theorem wordI_out {W : List Nat} {k : Int} (h : k < 0 ∨ (W.length : Int) ≤ k) : wordI W k = 0 := by
  unfold wordI
  by_cases h0 : 0 ≤ k
  · rw [if_pos h0]; simp [List.getD, List.getElem?_eq_none (show W.length ≤ k.toNat by omega)]
  · rw [if_neg h0]
theorem word_any (b g n : Nat) (W : List Nat) (k : Int) (w : World) (h : SieveAt w b g n W) :
    Calls Tryd.prog 24 #[.pointer (some ⟨b, 0, none⟩), .int .i64 k] w fun e w' => e = .returned (.int .u64 (wordI W k)) ∧ w = w' := by
  obtain ⟨c0, c1, f0, f1⟩ := h.blk.two
  have hwl : W.length ≤ 64 := by have := h.hn; rw [h.hw]; omega
  by_cases h1 : k < 0
  · rw [wordI_out (.inl h1)]
    clear h
    go_enter Tryd.func24, Tryd.ntmps24
    go_wp2_with fail
    go_ret
    exact ⟨rfl, rfl⟩
  by_cases h2 : (W.length : Int) ≤ k
  · rw [wordI_out (.inr h2)]
    clear h
    go_enter Tryd.func24, Tryd.ntmps24
    go_wp2_with fail
    go_ret
    exact ⟨rfl, rfl⟩
  · obtain ⟨j, rfl⟩ : ∃ j : Nat, k = j := ⟨k.toNat, by omega⟩
    have hx : W[j]? = some (W[j]'(by omega)) := List.getElem?_eq_getElem (by omega)
    have hc := (h.row.cell j).trans (cw_get hx)
    rw [wordI_get hx]
    have h3 : (j : Int) < (W.length : Int) := by omega
    generalize (W[j]'(by omega)) = x at *
    clear h hx
    go_enter Tryd.func24, Tryd.ntmps24
    go_wp2_with fail
    go_ret
    exact ⟨rfl, rfl⟩
theorem word_nil (k : Int) (w : World) : Calls Tryd.prog 24 #[.pointer none, .int .i64 k] w fun e w' => e = .returned (.int .u64 0) ∧ w = w' := by
  go_enter Tryd.func24, Tryd.ntmps24
  go_wp2_with fail
  go_ret
  exact ⟨rfl, rfl⟩
/-- How many numbers are in the first words. -/
def cnt (W : List Nat) : Nat := (W.map pop).sum
theorem cnt_succ {W : List Nat} {k x : Nat} (h : W[k]? = some x) : cnt (W.take (k + 1)) = cnt (W.take k) + pop x := by
  unfold cnt
  rw [List.take_add_one, h, List.map_append, List.sum_append]
  simp
theorem count_any (b g n : Nat) (W : List Nat) (w : World) (h : SieveAt w b g n W) :
    Calls Tryd.prog 17 #[.pointer (some ⟨b, 0, none⟩)] w fun e w' => e = .returned (.int .i64 (cnt W)) ∧ ∃ d, w' = w.drewN d := by
  obtain ⟨c0, c1, f0, f1⟩ := h.blk.two
  have hwl : W.length ≤ 64 := by have := h.hn; rw [h.hw]; omega
  have HR := Lib.hid h.row
  have HL := Lib.hid h.lt
  clear h
  go_enter Tryd.func17, Tryd.ntmps17
  go_wp2_with fail
  go_loopw [3, 13] (fun s i wr => ∃ k d q : Nat, k ≤ W.length ∧ i = .int .i64 (k : Int) ∧ s = .int .i64 (q : Int) ∧ q = cnt (W.take k) ∧ q ≤ 64 * k ∧ wr = w.drewN d) (fun _ i _ => W.length - (intOf i).toNat)
  case atStart => exact ⟨0, 0, 0, Nat.zero_le _, rfl, rfl, rfl, Nat.le_refl _, rfl⟩
  case round =>
    obtain ⟨k, d, q, hk, rfl, rfl, hq, hb, rfl⟩ := hrel
    have HQ := Lib.hid hq
    clear hq
    by_cases hlt : k < W.length
    · obtain ⟨x, hx⟩ : ∃ x, W[k]? = some x := ⟨_, List.getElem?_eq_getElem hlt⟩
      have hc := (HR.out.cell k).trans (cw_get hx)
      have HX2 := Lib.hid (HL.out _ _ hx)
      have HS := Lib.hid (cnt_succ hx)
      obtain ⟨px, hpx⟩ : ∃ px, pop x = px := ⟨_, rfl⟩
      have hp := pop_le x
      have HO := Lib.hid (ones_any x HX2.out (w.drewN d))
      rw [hpx] at HO HS hp
      have h3 : (k : Int) < (W.length : Int) := by omega
      clear hx hpx
      go_wp2_with fail
      refine HO.out.mono ?_
      rintro e w1 ⟨rfl, d1, rfl⟩
      dsimp only
      go_wp2_with fail
      go_roundw
      case rel => exact ⟨k + 1, d + d1, q + px, by omega, by go_num, by go_num, by rw [HS.out, ← HQ.out], by omega, rfl⟩
      case measure => simp [intOf]; omega
    · obtain rfl : k = W.length := by omega
      go_wp2_with fail
      go_ret
      refine ⟨?_, d, rfl⟩
      have hq := HQ.out
      rw [List.take_length] at hq
      rw [← hq]
      rfl
theorem count_nil (w : World) : Calls Tryd.prog 17 #[.pointer none] w fun e w' => e = .returned (.int .i64 0) ∧ w = w' := by
  go_enter Tryd.func17, Tryd.ntmps17
  go_wp2_with fail
  go_ret
  exact ⟨rfl, rfl⟩
end Go.Proofs.YtjlbmelpoaffpaaDoor.Sv
