/- Package page: what a page is in memory, and the contracts of its functions. -/
import Derived.Test.YtoajbjeiplolnaaDoorRPg
import Derived.Test.YtoajbjeiplolnaaDoorRBits2
namespace Go.Proofs.YtoajbjeiplolnaaDoorR.Pg
open Go.RowKit Bit
set_option linter.unusedSimpArgs false
set_option linter.unusedVariables false

theorem popc_bl (x : Nat) (hx : x < 4294967296) : popc x = (bl x).length := (bl_bytes x hx).symm
/-- Block b is a page of class c with n slots; U: which ones are used, M: which ones are marked. -/
structure PageAt (w : World) (b : Nat) (c : Int) (n U M : Nat) : Prop where
  blk : Blk w b #[.int .i64 c, .int .i64 n, .int .u32 U, .int .u32 M] 120
  hn : n ≤ 32
  n0 : 0 < n
  hU : U < 4294967296
  hM : M < 4294967296
  inU : ∀ i, U.testBit i = true → i < n
  inM : ∀ i, M.testBit i = true → U.testBit i = true
theorem PageAt.keep {w w' : World} {b n U M : Nat} {c : Int} (h : PageAt w b c n U M) (hb : w'.heap[b]? = w.heap[b]?) : PageAt w' b c n U M := { h with blk := hb.trans h.blk }
theorem PageAt.call {w w' : World} {b n U M : Nat} {c : Int} (h : PageAt w b c n U M) (hb : Below w.heap.size w w') : PageAt w' b c n U M := h.keep (hb.block b h.blk.lt)
theorem PageAt.drewN {w : World} {b n U M : Nat} {c : Int} (h : PageAt w b c n U M) (k : Nat) : PageAt (w.drewN k) b c n U M := h.keep rfl
/-- Is a number one of those in a word? -/
def at_ (U : Nat) (k : Int) : Bool := decide (0 ≤ k) && U.testBit k.toNat
/-- The word without a number. -/
def del (U k : Nat) : Nat := U &&& (4294967295 - 2 ^ k)
def ins (U k : Nat) : Nat := U ||| 2 ^ k
theorem del_bit {U k : Nat} (hU : U < 4294967296) (hk : k < 32) (i : Nat) : (del U k).testBit i = (U.testBit i && decide (k ≠ i)) := by
  unfold del
  rw [andn_bit U _ i hU (pow_lt hk), pow_bit]
  simp
theorem ins_bit (U k i : Nat) : (ins U k).testBit i = (U.testBit i || decide (k = i)) := by
  unfold ins
  rw [Nat.testBit_or, pow_bit]
theorem del_lt {U : Nat} (k : Nat) (hU : U < 4294967296) : del U k < 4294967296 := by
  unfold del
  have : U &&& (4294967295 - 2 ^ k) ≤ U := Nat.and_le_left
  omega
theorem ins_lt {U k : Nat} (hU : U < 4294967296) (hk : k < 32) : ins U k < 4294967296 := by
  unfold ins
  have : U ||| 2 ^ k < 2 ^ 32 := Nat.or_lt_two_pow (by omega) (by have := pow_lt hk; omega)
  omega

theorem pow_int {k : Nat} (h : k < 32) : ((2 : Int) ^ k % 4294967296) = ((2 ^ k : Nat) : Int) := by
  have h1 := pow_lt h
  have e : ((2 ^ k : Nat) : Int) = (2 : Int) ^ k := by simp
  rw [← e]
  exact Int.emod_eq_of_lt (Int.natCast_nonneg _) (Int.ofNat_lt.2 h1)
theorem bit_at (b : Nat) (c : Int) (n U M : Nat) (k : Nat) (w : World) (h : Blk w b #[.int .i64 c, .int .i64 n, .int .u32 U, .int .u32 M] 120) (hn : n ≤ 32) (hk : k < n) :
    Calls Tryd.prog 115 #[.pointer (some ⟨b, 0, none⟩), .int .i64 k] w fun e w' => e = .returned (.int .u32 ((2 ^ k : Nat) : Int)) ∧ w = w' := by
  obtain ⟨c0, c1, c2, c3, f0, f1, f2, f3⟩ := h.four
  have hk0 : (0 : Int) ≤ (k : Int) := by omega
  have hk1 : ¬ (k : Int) < 0 := by omega
  have hk2 : (k : Int) < (n : Int) := by omega
  have hk3 : ¬ (n : Int) ≤ (k : Int) := by omega
  have hp := pow_int (k := k) (by omega)
  generalize ((2 ^ k : Nat) : Int) = z at *
  have HP := Lib.hid hp
  clear hp
  clear h
  go_enter Tryd.func115, Tryd.ntmps115
  go_wp2_with fail
  go_ret
  refine ⟨?_, rfl⟩
  rw [← HP.out]
  rfl
theorem bit_yes (b : Nat) (c : Int) (n U M : Nat) (k : Nat) (w : World) (h : PageAt w b c n U M) (hk : k < n) :
    Calls Tryd.prog 115 #[.pointer (some ⟨b, 0, none⟩), .int .i64 k] w fun e w' => e = .returned (.int .u32 ((2 ^ k : Nat) : Int)) ∧ w = w' := bit_at b c n U M k w h.blk h.hn hk
theorem bit_no (b : Nat) (c : Int) (n U M : Nat) (k : Int) (w : World) (h : PageAt w b c n U M) (hk : k < 0 ∨ (n : Int) ≤ k) :
    Calls Tryd.prog 115 #[.pointer (some ⟨b, 0, none⟩), .int .i64 k] w fun e w' => e = .returned (.int .u32 0) ∧ w = w' := by
  obtain ⟨c0, c1, c2, c3, f0, f1, f2, f3⟩ := h.blk.four
  have hn := h.hn
  clear h
  by_cases h1 : k < 0
  · clear hk
    go_enter Tryd.func115, Tryd.ntmps115
    go_wp2_with fail
    go_ret
    exact ⟨rfl, rfl⟩
  · have h2 : (n : Int) ≤ k := by omega
    clear hk
    go_enter Tryd.func115, Tryd.ntmps115
    go_wp2_with fail
    go_ret
    exact ⟨rfl, rfl⟩
theorem bit_nil (k : Int) (w : World) :
    Calls Tryd.prog 115 #[.pointer none, .int .i64 k] w fun e w' => e = .returned (.int .u32 0) ∧ w = w' := by
  go_enter Tryd.func115, Tryd.ntmps115
  go_wp2_with fail
  go_ret
  exact ⟨rfl, rfl⟩
theorem at_cases {U n : Nat} (inU : ∀ i, U.testBit i = true → i < n) (k : Int) : (k < 0 ∨ (n : Int) ≤ k) ∧ at_ U k = false ∨ ∃ j : Nat, k = j ∧ j < n ∧ at_ U k = U.testBit j := by
  by_cases h1 : k < 0
  · left; refine ⟨.inl h1, ?_⟩; unfold at_; simp; omega
  · obtain ⟨j, rfl⟩ : ∃ j : Nat, k = j := ⟨k.toNat, by omega⟩
    by_cases h2 : j < n
    · right; exact ⟨j, rfl, h2, by unfold at_; simp⟩
    · left; refine ⟨.inr (by omega), ?_⟩
      unfold at_
      have : U.testBit j = false := by
        cases h : U.testBit j with
        | false => rfl
        | true => exact absurd (inU j h) h2
      simp [this]
theorem and_case (U j : Nat) (hU : U < 4294967296) (hj : j < 32) (b : Bool) (hb : U.testBit j = b) : (bits BinOp.and IntKind.u32 (U : Int) ((2 ^ j : Nat) : Int) != 0) = b := by
  rw [and32 _ _ hU (pow_lt hj)]
  cases b
  · rw [(and_pow U j).2 hb]; rfl
  · have : U &&& 2 ^ j ≠ 0 := fun e => by rw [(and_pow U j).1 e] at hb; cases hb
    simp only [bne_iff_ne, ne_eq]
    omega
theorem pow_ne (j : Nat) : (((2 ^ j : Nat) : Int) != 0) = true := by
  have := Nat.two_pow_pos j
  simp only [bne_iff_ne, ne_eq]
  omega
theorem used_any (b : Nat) (c : Int) (n U M : Nat) (k : Int) (w : World) (h : PageAt w b c n U M) :
    Calls Tryd.prog 116 #[.pointer (some ⟨b, 0, none⟩), .int .i64 k] w fun e w' => e = .returned (.bool (at_ U k)) ∧ w = w' := by
  obtain ⟨c0, c1, c2, c3, f0, f1, f2, f3⟩ := h.blk.four
  have H := Lib.hid h
  rcases at_cases h.inU k with ⟨hk, ha⟩ | ⟨j, rfl, hj, ha⟩
  · have HK := Lib.hid hk
    rw [ha]
    clear h hk ha
    go_enter Tryd.func116, Tryd.ntmps116
    go_wp2_with fail
    refine (bit_no _ _ _ _ _ _ _ H.out HK.out).mono ?_
    rintro e w1 ⟨rfl, rfl⟩
    dsimp only
    go_wp2_with fail
    go_ret
    exact ⟨rfl, rfl⟩
  · rw [ha]
    have hU := h.hU
    have h32 : j < 32 := by have := h.hn; omega
    have hp := pow_ne j
    generalize hb : U.testBit j = t
    have hc := and_case U j hU h32 t hb
    clear h ha hb
    cases t
    all_goals
      go_enter Tryd.func116, Tryd.ntmps116
      go_wp2_with fail
      refine (bit_yes _ _ _ _ _ _ _ H.out hj).mono ?_
      rintro e w1 ⟨rfl, rfl⟩
      dsimp only
      generalize ((2 ^ j : Nat) : Int) = z at *
      go_wp2_with fail
      go_ret
      exact ⟨rfl, rfl⟩
end Go.Proofs.YtoajbjeiplolnaaDoorR.Pg
