/- Package page: what a page is in memory, and the contracts of its functions (math/bits' two among them). Package page: what a page is in memory, and the contracts of its functions. Package page: the contracts of Take, Free, Mark. Package page: the contracts of New, Mark, slots, Sweep, Count, All, Class; and those at nil. Package page: the contracts of Sweep and All; and those at nil. -/
import Derived.Test.YtfgpadkoonogpaaDoorProg
import Derived.Test.YtfgpadkoonogpaaDoorGn
import Derived.Test.YtfgpadkoonogpaaDoorClz
import Derived.Test.YtfgpadkoonogpaaDoorBt
import Derived.StillTailTactics
namespace Go.Proofs.YtfgpadkoonogpaaDoor.Pg
open Go.RowKit Bit
set_option linter.unusedSimpArgs false
set_option linter.unusedVariables false

/-- The library's table stands in its variable. -/
def Tab (w : World) : Prop := 0 < w.heap.size ∧ ∀ j, j < 32 → w.cell? ⟨0, j, none⟩ = some (.int .u8 (Lib.deBruijn32tab.getD j 0))
theorem Tab.keep {w w' : World} (h : Tab w) (h0 : w'.heap[0]? = w.heap[0]?) (hs : w.heap.size ≤ w'.heap.size) : Tab w' :=
  ⟨Nat.lt_of_lt_of_le h.1 hs, fun j hj => (World.cell?_of_block (a := ⟨0, j, none⟩) h0).trans (h.2 j hj)⟩
theorem Tab.below {B : Nat} {w w' : World} (h : Tab w) (hb : Below B w w') (hB : 0 < B) : Tab w' := h.keep (hb.block 0 hB) hb.size
theorem Tab.call {w w' : World} (h : Tab w) (hb : Below w.heap.size w w') : Tab w' := h.below hb h.1
theorem Tab.drewN {w : World} (h : Tab w) (n : Nat) : Tab (w.drewN n) := h
theorem Tab.kept {S : Nat → Prop} {w w' : World} (h : Tab w) (hk : Kept S w w') (h0 : ¬ S 0) : Tab w' := h.keep (hk.block 0 h.1 h0) hk.size

theorem tz_key (x a : Nat) (hx : x < 4294967296) (hx0 : x ≠ 0) (hlow : x &&& (4294967296 - x) = a) :
    bits BinOp.and IntKind.u32 (x : Int) (-(x : Int) % 4294967296) * 125613361 % 4294967296 / 134217728 = ((a * 125613361 % 4294967296 / 134217728 : Nat) : Int) := by
  have e1 : -(x : Int) % 4294967296 = ((4294967296 - x : Nat) : Int) := by omega
  rw [e1, and32 x _ hx (by omega), hlow]
  omega
theorem tz_core (x k idx : Nat) (w : World) (hx0 : ((x : Int) == 0) = false)
    (key : bits BinOp.and IntKind.u32 (x : Int) (-(x : Int) % 4294967296) * 125613361 % 4294967296 / 134217728 = (idx : Int))
    (hi : idx < 32) (hk : k < 32) (hcell : w.cell? ⟨0, idx, none⟩ = some (.int .u8 k)) :
    Calls Tryd.prog 86 #[.int .u32 x] w fun e w' => e = .returned (.int .i64 k) ∧ w = w' := by
  go_enter Tryd.func86, Tryd.ntmps86
  go_wp2_with (simp only [key])
  go_ret
  exact ⟨rfl, rfl⟩
theorem tz_zero (w : World) : Calls Tryd.prog 86 #[.int .u32 0] w fun e w' => e = .returned (.int .i64 32) ∧ w = w' := by
  go_enter Tryd.func86, Tryd.ntmps86
  go_wp2
  go_ret
  exact ⟨rfl, rfl⟩
theorem tz_any (x : Nat) (hx : x < 4294967296) (w : World) (hT : Tab w) : Calls Tryd.prog 86 #[.int .u32 x] w fun e w' => e = .returned (.int .i64 (Lib.ctz 32 x)) ∧ w = w' := by
  by_cases hx0 : x = 0
  · subst hx0
    exact tz_zero w
  · obtain ⟨hlow, hk⟩ := Lib.lowest_bit 32 x hx0 hx
    obtain ⟨hi, htab⟩ := Lib.deBruijn32_at _ hk
    have hcell := hT.2 _ hi
    rw [htab] at hcell
    exact tz_core x _ _ w (by simp; omega) (tz_key x _ hx hx0 hlow) hi hk hcell

/-- How many bits are set. -/
def popc (x : Nat) : Nat := Lib.onesCount (x / 16777216) + Lib.onesCount (x / 65536 % 256) + Lib.onesCount (x / 256 % 256) + Lib.onesCount (x % 256)
theorem pop8_nat (b : Nat) (h : b < 256) : Lib.pop8 (b : Int) = (Lib.onesCount b : Int) ∧ Lib.onesCount b ≤ 8 := ⟨Lib.pop8_eq ⟨b, h⟩, Lib.onesCount_le8 ⟨b, h⟩⟩
set_option maxHeartbeats 1000000 in
theorem ones_any (x : Nat) (hx : x < 4294967296) (w : World) : Calls Tryd.prog 89 #[.int .u32 x] w fun e w' => e = .returned (.int .i64 (popc x)) ∧ ∃ n, w' = w.drewN n := by
  have hx0 : (0 : Int) ≤ (x : Int) := by omega
  have hx1 : (x : Int) ≤ 4294967295 := by omega
  have h1 : (0 : Int) ≤ (x : Int) / 16777216 := by omega
  have h2 : (x : Int) / 16777216 ≤ 255 := by omega
  have e1 : bits BinOp.and IntKind.u32 ((x : Int) / 65536) 255 = (x : Int) / 65536 % 256 := by have := and255 (x / 65536) (by omega); simpa using this
  have e2 : bits BinOp.and IntKind.u32 ((x : Int) / 256) 255 = (x : Int) / 256 % 256 := by have := and255 (x / 256) (by omega); simpa using this
  have e3 : bits BinOp.and IntKind.u32 (x : Int) 255 = (x : Int) % 256 := by have := and255 x hx; simpa using this
  have h3 : (0 : Int) ≤ (x : Int) / 65536 % 256 := by omega
  have h4 : (x : Int) / 65536 % 256 ≤ 255 := by omega
  have h5 : (0 : Int) ≤ (x : Int) / 256 % 256 := by omega
  have h6 : (x : Int) / 256 % 256 ≤ 255 := by omega
  have h7 : (0 : Int) ≤ (x : Int) % 256 := by omega
  have h8 : (x : Int) % 256 ≤ 255 := by omega
  obtain ⟨p1, q1⟩ := pop8_nat (x / 16777216) (by omega)
  obtain ⟨p2, q2⟩ := pop8_nat (x / 65536 % 256) (by omega)
  obtain ⟨p3, q3⟩ := pop8_nat (x / 256 % 256) (by omega)
  obtain ⟨p4, q4⟩ := pop8_nat (x % 256) (by omega)
  have hp : popc x = Lib.onesCount (x / 16777216) + Lib.onesCount (x / 65536 % 256) + Lib.onesCount (x / 256 % 256) + Lib.onesCount (x % 256) := rfl
  generalize popc x = r at *
  have a1 : Lib.pop8 ((x : Int) / 16777216) = (Lib.onesCount (x / 16777216) : Int) := by simpa using p1
  have a2 : Lib.pop8 ((x : Int) / 65536 % 256) = (Lib.onesCount (x / 65536 % 256) : Int) := by simpa using p2
  have a3 : Lib.pop8 ((x : Int) / 256 % 256) = (Lib.onesCount (x / 256 % 256) : Int) := by simpa using p3
  have a4 : Lib.pop8 ((x : Int) % 256) = (Lib.onesCount (x % 256) : Int) := by simpa using p4
  clear p1 p2 p3 p4
  generalize Lib.onesCount (x / 16777216) = s1 at *
  generalize Lib.onesCount (x / 65536 % 256) = s2 at *
  generalize Lib.onesCount (x / 256 % 256) = s3 at *
  generalize Lib.onesCount (x % 256) = s4 at *
  subst hp
  have b1 : (s1 : Int) ≤ 8 := by omega
  have b2 : (s2 : Int) ≤ 8 := by omega
  have b3 : (s3 : Int) ≤ 8 := by omega
  have b4 : (s4 : Int) ≤ 8 := by omega
  have g1 : (0 : Int) ≤ (s1 : Int) := by omega
  have g2 : (0 : Int) ≤ (s2 : Int) := by omega
  have g3 : (0 : Int) ≤ (s3 : Int) := by omega
  have g4 : (0 : Int) ≤ (s4 : Int) := by omega
  have w1 : IntKind.u8.wrap ((s1 : Int) + s2) = (s1 : Int) + s2 := by simp [IntKind.wrap, IntKind.signed, IntKind.bits]; omega
  have w2 : IntKind.u8.wrap ((s1 : Int) + s2 + s3) = (s1 : Int) + s2 + s3 := by simp [IntKind.wrap, IntKind.signed, IntKind.bits]; omega
  have w3 : IntKind.u8.wrap ((s1 : Int) + s2 + s3 + s4) = (s1 : Int) + s2 + s3 + s4 := by simp [IntKind.wrap, IntKind.signed, IntKind.bits]; omega
  have w4 : IntKind.i64.wrap ((s1 : Int) + s2 + s3 + s4) = (s1 : Int) + s2 + s3 + s4 := IntWalk.i64_in _ (by omega)
  go_enter Tryd.func89, Tryd.ntmps89
  go_wp2_with fail
  go_quiet (fail)
  go_wp2_with fail
  go_ret
  refine ⟨?_, _, rfl⟩
  rw [show (((s1 + s2 + s3 + s4 : Nat)) : Int) = (s1 : Int) + s2 + s3 + s4 by omega]
  rfl
end Go.Proofs.YtfgpadkoonogpaaDoor.Pg

namespace Go.Proofs.YtfgpadkoonogpaaDoor.Pg
open Go.RowKit Bit
set_option linter.unusedSimpArgs false
set_option linter.unusedVariables false

theorem popc_bl (x : Nat) (hx : x < 4294967296) : popc x = (bl x).length := (bl_bytes x hx).symm
/-- Block b is a page of class c with n slots; U: which ones are used, M: which ones are marked. -/
structure PageAt (w : World) (b : Nat) (c : Int) (n U M : Nat) : Prop where
  blk : Blk w b #[.int .i64 c, .int .i64 n, .int .u32 U, .int .u32 M] 102
  hn : n ≤ 32
  n0 : 0 < n
  hU : U < 4294967296
  hM : M < 4294967296
  inU : ∀ i, U.testBit i = true → i < n
  inM : ∀ i, M.testBit i = true → U.testBit i = true
theorem PageAt.keep {w w' : World} {b n U M : Nat} {c : Int} (h : PageAt w b c n U M) (hb : w'.heap[b]? = w.heap[b]?) : PageAt w' b c n U M := { h with blk := hb.trans h.blk }
theorem PageAt.call {w w' : World} {b n U M : Nat} {c : Int} (h : PageAt w b c n U M) (hb : Below w.heap.size w w') : PageAt w' b c n U M := h.keep (hb.block b h.blk.lt)
theorem PageAt.drewN {w : World} {b n U M : Nat} {c : Int} (h : PageAt w b c n U M) (k : Nat) : PageAt (w.drewN k) b c n U M := h.keep rfl
/-- Is a number one of those in a word? -/
def at_ (U : Nat) (k : Int) : Bool := decide (0 ≤ k) && U.testBit k.toNat
/-- The word without a number. -/
def del (U k : Nat) : Nat := U &&& (4294967295 - 2 ^ k)
def ins (U k : Nat) : Nat := U ||| 2 ^ k
theorem del_bit {U k : Nat} (hU : U < 4294967296) (hk : k < 32) (i : Nat) : (del U k).testBit i = (U.testBit i && decide (k ≠ i)) := by
  unfold del
  rw [andn_bit U _ i hU (pow_lt hk), pow_bit]
  simp
theorem ins_bit (U k i : Nat) : (ins U k).testBit i = (U.testBit i || decide (k = i)) := by
  unfold ins
  rw [Nat.testBit_or, pow_bit]
theorem del_lt {U : Nat} (k : Nat) (hU : U < 4294967296) : del U k < 4294967296 := by
  unfold del
  have : U &&& (4294967295 - 2 ^ k) ≤ U := Nat.and_le_left
  omega
theorem ins_lt {U k : Nat} (hU : U < 4294967296) (hk : k < 32) : ins U k < 4294967296 := by
  unfold ins
  have : U ||| 2 ^ k < 2 ^ 32 := Nat.or_lt_two_pow (by omega) (by have := pow_lt hk; omega)
  omega

theorem pow_int {k : Nat} (h : k < 32) : ((2 : Int) ^ k % 4294967296) = ((2 ^ k : Nat) : Int) := by
  have h1 := pow_lt h
  have e : ((2 ^ k : Nat) : Int) = (2 : Int) ^ k := by simp
  rw [← e]
  exact Int.emod_eq_of_lt (Int.natCast_nonneg _) (Int.ofNat_lt.2 h1)
theorem bit_at (b : Nat) (c : Int) (n U M : Nat) (k : Nat) (w : World) (h : Blk w b #[.int .i64 c, .int .i64 n, .int .u32 U, .int .u32 M] 102) (hn : n ≤ 32) (hk : k < n) :
    Calls Tryd.prog 87 #[.pointer (some ⟨b, 0, none⟩), .int .i64 k] w fun e w' => e = .returned (.int .u32 ((2 ^ k : Nat) : Int)) ∧ w = w' := by
  obtain ⟨c0, c1, c2, c3, f0, f1, f2, f3⟩ := h.four
  have hk0 : (0 : Int) ≤ (k : Int) := by omega
  have hk1 : ¬ (k : Int) < 0 := by omega
  have hk2 : (k : Int) < (n : Int) := by omega
  have hk3 : ¬ (n : Int) ≤ (k : Int) := by omega
  have hp := pow_int (k := k) (by omega)
  generalize ((2 ^ k : Nat) : Int) = z at *
  have HP := Lib.hid hp
  clear hp
  clear h
  go_enter Tryd.func87, Tryd.ntmps87
  go_wp2_with fail
  go_ret
  refine ⟨?_, rfl⟩
  rw [← HP.out]
  rfl
theorem bit_yes (b : Nat) (c : Int) (n U M : Nat) (k : Nat) (w : World) (h : PageAt w b c n U M) (hk : k < n) :
    Calls Tryd.prog 87 #[.pointer (some ⟨b, 0, none⟩), .int .i64 k] w fun e w' => e = .returned (.int .u32 ((2 ^ k : Nat) : Int)) ∧ w = w' := bit_at b c n U M k w h.blk h.hn hk
theorem bit_no (b : Nat) (c : Int) (n U M : Nat) (k : Int) (w : World) (h : PageAt w b c n U M) (hk : k < 0 ∨ (n : Int) ≤ k) :
    Calls Tryd.prog 87 #[.pointer (some ⟨b, 0, none⟩), .int .i64 k] w fun e w' => e = .returned (.int .u32 0) ∧ w = w' := by
  obtain ⟨c0, c1, c2, c3, f0, f1, f2, f3⟩ := h.blk.four
  have hn := h.hn
  clear h
  by_cases h1 : k < 0
  · clear hk
    go_enter Tryd.func87, Tryd.ntmps87
    go_wp2_with fail
    go_ret
    exact ⟨rfl, rfl⟩
  · have h2 : (n : Int) ≤ k := by omega
    clear hk
    go_enter Tryd.func87, Tryd.ntmps87
    go_wp2_with fail
    go_ret
    exact ⟨rfl, rfl⟩
theorem bit_nil (k : Int) (w : World) :
    Calls Tryd.prog 87 #[.pointer none, .int .i64 k] w fun e w' => e = .returned (.int .u32 0) ∧ w = w' := by
  go_enter Tryd.func87, Tryd.ntmps87
  go_wp2_with fail
  go_ret
  exact ⟨rfl, rfl⟩
theorem at_cases {U n : Nat} (inU : ∀ i, U.testBit i = true → i < n) (k : Int) : (k < 0 ∨ (n : Int) ≤ k) ∧ at_ U k = false ∨ ∃ j : Nat, k = j ∧ j < n ∧ at_ U k = U.testBit j := by
  by_cases h1 : k < 0
  · left; refine ⟨.inl h1, ?_⟩; unfold at_; simp; omega
  · obtain ⟨j, rfl⟩ : ∃ j : Nat, k = j := ⟨k.toNat, by omega⟩
    by_cases h2 : j < n
    · right; exact ⟨j, rfl, h2, by unfold at_; simp⟩
    · left; refine ⟨.inr (by omega), ?_⟩
      unfold at_
      have : U.testBit j = false := by
        cases h : U.testBit j with
        | false => rfl
        | true => exact absurd (inU j h) h2
      simp [this]
theorem and_case (U j : Nat) (hU : U < 4294967296) (hj : j < 32) (b : Bool) (hb : U.testBit j = b) : (bits BinOp.and IntKind.u32 (U : Int) ((2 ^ j : Nat) : Int) != 0) = b := by
  rw [and32 _ _ hU (pow_lt hj)]
  cases b
  · rw [(and_pow U j).2 hb]; rfl
  · have : U &&& 2 ^ j ≠ 0 := fun e => by rw [(and_pow U j).1 e] at hb; cases hb
    simp only [bne_iff_ne, ne_eq]
    omega
theorem pow_ne (j : Nat) : (((2 ^ j : Nat) : Int) != 0) = true := by
  have := Nat.two_pow_pos j
  simp only [bne_iff_ne, ne_eq]
  omega
theorem used_any (b : Nat) (c : Int) (n U M : Nat) (k : Int) (w : World) (h : PageAt w b c n U M) :
    Calls Tryd.prog 88 #[.pointer (some ⟨b, 0, none⟩), .int .i64 k] w fun e w' => e = .returned (.bool (at_ U k)) ∧ w = w' := by
  obtain ⟨c0, c1, c2, c3, f0, f1, f2, f3⟩ := h.blk.four
  have H := Lib.hid h
  rcases at_cases h.inU k with ⟨hk, ha⟩ | ⟨j, rfl, hj, ha⟩
  · have HK := Lib.hid hk
    rw [ha]
    clear h hk ha
    go_enter Tryd.func88, Tryd.ntmps88
    go_wp2_with fail
    refine (bit_no _ _ _ _ _ _ _ H.out HK.out).mono ?_
    rintro e w1 ⟨rfl, rfl⟩
    dsimp only
    go_wp2_with fail
    go_ret
    exact ⟨rfl, rfl⟩
  · rw [ha]
    have hU := h.hU
    have h32 : j < 32 := by have := h.hn; omega
    have hp := pow_ne j
    generalize hb : U.testBit j = t
    have hc := and_case U j hU h32 t hb
    clear h ha hb
    cases t
    all_goals
      go_enter Tryd.func88, Tryd.ntmps88
      go_wp2_with fail
      refine (bit_yes _ _ _ _ _ _ _ H.out hj).mono ?_
      rintro e w1 ⟨rfl, rfl⟩
      dsimp only
      generalize ((2 ^ j : Nat) : Int) = z at *
      go_wp2_with fail
      go_ret
      exact ⟨rfl, rfl⟩
end Go.Proofs.YtfgpadkoonogpaaDoor.Pg

namespace Go.Proofs.YtfgpadkoonogpaaDoor.Pg
open Go.RowKit Bit
set_option linter.unusedSimpArgs false
set_option linter.unusedVariables false

theorem ctz_free {U k : Nat} (hU : U < 4294967296) (hk : k < 32) (h1 : U.testBit k = false) (h2 : ∀ j, j < k → U.testBit j = true) : Lib.ctz 32 (4294967295 - U) = k := by
  apply ctz_unique (by omega)
  · rw [comp_bit U k hU, h1]; simp [hk]
  · intro j hj
    rw [comp_bit U j hU, h2 j hj]; simp
theorem ctz_full {U n : Nat} (hU : U < 4294967296) (hn : n ≤ 32) (h : ∀ j, j < n → U.testBit j = true) : n ≤ Lib.ctz 32 (4294967295 - U) := by
  by_cases h0 : 4294967295 - U = 0
  · rw [h0]; simp [Lib.ctz]; exact hn
  · obtain ⟨a, b, _⟩ := ctz_spec 32 (4294967295 - U) h0 (by omega)
    rw [comp_bit U _ hU] at b
    apply Nat.le_of_not_lt
    intro hlt
    rw [h _ hlt] at b
    simp at b
theorem PageAt.upd {w : World} {b n U M U' M' : Nat} {c : Int} (h : PageAt w b c n U M) (hU : U' < 4294967296) (hM : M' < 4294967296) (inU : ∀ i, U'.testBit i = true → i < n) (inM : ∀ i, M'.testBit i = true → U'.testBit i = true) :
    PageAt ((w.setCell ⟨b, 2, none⟩ (.int .u32 U')).setCell ⟨b, 3, none⟩ (.int .u32 M')) b c n U' M' :=
  ⟨((h.blk.set 2 _).set 3 _).of_eq (by simp), h.hn, h.n0, hU, hM, inU, inM⟩
theorem kept2 (w : World) (b : Nat) (u v : Value) : Kept (fun k => k = b) w ((w.setCell ⟨b, 2, none⟩ u).setCell ⟨b, 3, none⟩ v) := ((Kept.refl (fun k => k = b) w).set (p := ⟨b, 2, none⟩) (.inl rfl) u).set (p := ⟨b, 3, none⟩) (.inl rfl) v
set_option maxHeartbeats 1000000 in
theorem take_yes (b : Nat) (c : Int) (n U M k : Nat) (w : World) (h : PageAt w b c n U M) (hT : Tab w) (hk : k < n) (h1 : U.testBit k = false) (h2 : ∀ j, j < k → U.testBit j = true) :
    Calls Tryd.prog 45 #[.pointer (some ⟨b, 0, none⟩)] w fun e w' => e = .returned (.tuple #[.int .i64 k, .bool true]) ∧ PageAt w' b c n (ins U k) (del M k) ∧ Kept (fun i => i = b) w w' := by
  obtain ⟨c0, c1, c2, c3, f0, f1, f2, f3⟩ := h.blk.four
  have hk32 : k < 32 := by have := h.hn; omega
  have hx := not32 U h.hU
  have HC := Lib.hid (ctz_free h.hU hk32 h1 h2)
  have hor := or32 U (2 ^ k) h.hU (pow_lt hk32)
  have hand := andn32 M (2 ^ k) h.hM (pow_lt hk32)
  have hp := pow_ne k
  have hp2 : (((2 ^ k : Nat) : Int) == 0) = false := by have := Nat.two_pow_pos k; simp only [beq_eq_false_iff_ne, ne_eq]; omega
  have hUU := ins_lt h.hU hk32
  have hMM := del_lt k h.hM
  have HF := Lib.hid (show PageAt ((w.setCell ⟨b, 2, none⟩ (.int .u32 (ins U k : Nat))).setCell ⟨b, 3, none⟩ (.int .u32 (del M k : Nat))) b c n (ins U k) (del M k) from
    h.upd hUU hMM (fun i hi => by
      rw [ins_bit] at hi
      rcases Bool.or_eq_true_iff.1 hi with hi | hi
      · exact h.inU i hi
      · have := of_decide_eq_true hi; omega)
    (fun i hi => by
      rw [del_bit h.hM hk32] at hi
      rw [ins_bit]
      have := Bool.and_eq_true_iff.1 hi
      rw [h.inM i this.1]; rfl))
  have HT := Lib.hid hT
  have H := Lib.hid h
  have hle : 4294967295 - U < 4294967296 := by omega
  rw [show U ||| 2 ^ k = ins U k from rfl] at hor
  rw [show M &&& (4294967295 - 2 ^ k) = del M k from rfl] at hand
  generalize ins U k = U' at *
  generalize del M k = M' at *
  clear h hT h1 h2
  go_enter Tryd.func45, Tryd.ntmps45
  go_wp2_with fail
  refine (tz_any _ hle _ HT.out).mono ?_
  rw [HC.out]
  rintro e w1 ⟨rfl, rfl⟩
  dsimp only
  go_wp2_with fail
  refine (bit_yes _ _ _ _ _ _ _ H.out hk).mono ?_
  rintro e w1 ⟨rfl, rfl⟩
  dsimp only
  generalize ((2 ^ k : Nat) : Int) = z at *
  go_wp2_with fail
  go_ret2
  exact ⟨rfl, HF.out, kept2 w b _ _⟩
theorem take_no (b : Nat) (c : Int) (n U M : Nat) (w : World) (h : PageAt w b c n U M) (hT : Tab w) (h2 : ∀ j, j < n → U.testBit j = true) :
    Calls Tryd.prog 45 #[.pointer (some ⟨b, 0, none⟩)] w fun e w' => e = .returned (.tuple #[.int .i64 0, .bool false]) ∧ w = w' := by
  obtain ⟨c0, c1, c2, c3, f0, f1, f2, f3⟩ := h.blk.four
  have hx := not32 U h.hU
  have hle : 4294967295 - U < 4294967296 := by omega
  obtain ⟨k, hk⟩ : ∃ k, Lib.ctz 32 (4294967295 - U) = k := ⟨_, rfl⟩
  have HK := Lib.hid (show (k : Int) < 0 ∨ (n : Int) ≤ (k : Int) from .inr (by have := ctz_full h.hU h.hn h2; omega))
  have HC := Lib.hid hk
  have HT := Lib.hid hT
  have H := Lib.hid h
  clear h hT h2 hk
  go_enter Tryd.func45, Tryd.ntmps45
  go_wp2_with fail
  refine (tz_any _ hle _ HT.out).mono ?_
  rw [HC.out]
  rintro e w1 ⟨rfl, rfl⟩
  dsimp only
  go_wp2_with fail
  refine (bit_no _ _ _ _ _ _ _ H.out HK.out).mono ?_
  rintro e w1 ⟨rfl, rfl⟩
  dsimp only
  go_wp2_with fail
  go_ret2
  exact ⟨rfl, rfl⟩
theorem free_no (b : Nat) (c : Int) (n U M : Nat) (k : Int) (w : World) (h : PageAt w b c n U M) (hk : at_ U k = false) :
    Calls Tryd.prog 48 #[.pointer (some ⟨b, 0, none⟩), .int .i64 k] w fun e w' => e = .returned (.bool false) ∧ w = w' := by
  have HK := Lib.hid hk
  have H := Lib.hid h
  clear h hk
  go_enter Tryd.func48, Tryd.ntmps48
  go_wp2_with fail
  refine (used_any _ _ _ _ _ _ _ H.out).mono ?_
  rw [HK.out]
  rintro e w1 ⟨rfl, rfl⟩
  dsimp only
  go_wp2_with fail
  go_ret
  exact ⟨rfl, rfl⟩
theorem at_nat {U k : Nat} : at_ U (k : Int) = U.testBit k := by unfold at_; simp
set_option maxHeartbeats 1000000 in
theorem free_yes (b : Nat) (c : Int) (n U M k : Nat) (w : World) (h : PageAt w b c n U M) (hk : U.testBit k = true) :
    Calls Tryd.prog 48 #[.pointer (some ⟨b, 0, none⟩), .int .i64 k] w fun e w' => e = .returned (.bool true) ∧ PageAt w' b c n (del U k) (del M k) ∧ Kept (fun i => i = b) w w' := by
  have hkn := h.inU k hk
  have hk32 : k < 32 := by have := h.hn; omega
  have hand := andn32 U (2 ^ k) h.hU (pow_lt hk32)
  have hand2 := andn32 M (2 ^ k) h.hM (pow_lt hk32)
  rw [show U &&& (4294967295 - 2 ^ k) = del U k from rfl] at hand
  rw [show M &&& (4294967295 - 2 ^ k) = del M k from rfl] at hand2
  have hUU := del_lt k h.hU
  have hMM := del_lt k h.hM
  have HD := Lib.hid (show (∀ i, (del U k).testBit i = true → i < n) ∧ (∀ i, (del M k).testBit i = true → (del U k).testBit i = true) from
    ⟨fun i hi => by rw [del_bit h.hU hk32] at hi; exact h.inU i (Bool.and_eq_true_iff.1 hi).1,
     fun i hi => by rw [del_bit h.hM hk32] at hi; rw [del_bit h.hU hk32]; have := Bool.and_eq_true_iff.1 hi; rw [h.inM i this.1, this.2]; rfl⟩)
  have HA := Lib.hid (show at_ U (k : Int) = true from at_nat.trans hk)
  have HN := Lib.hid h.hn
  have HF := Lib.hid (fun (w' : World) (hb : Blk w' b #[.int .i64 c, .int .i64 n, .int .u32 (del U k : Nat), .int .u32 (del M k : Nat)] 102) => (⟨hb, h.hn, h.n0, hUU, hMM, HD.out.1, HD.out.2⟩ : PageAt w' b c n (del U k) (del M k)))
  obtain ⟨c0, c1, c2, c3, f0, f1, f2, f3⟩ := h.blk.four
  have H := Lib.hid h
  generalize del U k = U' at *
  generalize del M k = M' at *
  clear h hk
  go_enter Tryd.func48, Tryd.ntmps48
  go_wp2_with fail
  refine (used_any _ _ _ _ _ _ _ H.out).mono ?_
  rw [HA.out]
  rintro e w1 ⟨rfl, rfl⟩
  dsimp only
  go_wp2_with fail
  have H1 := Lib.hid (H.out.drewN 1)
  have c2' : w.drew.cell? ⟨b, 2, none⟩ = some (.int .u32 U) := c2
  generalize hz : ((2 ^ k : Nat) : Int) = z at *
  have HZ := Lib.hid hz
  clear hz
  go_region_with (go_at_call 87; refine (bit_yes _ _ _ _ _ _ _ H1.out hkn).mono ?_; rw [HZ.out]; rintro e w1 ⟨rfl, rfl⟩; dsimp only)
  all_goals
    have HB := Lib.hid (show Blk ((w.drewN 1).setCell ⟨b, 2, none⟩ (.int .u32 U')) b #[.int .i64 c, .int .i64 n, .int .u32 U', .int .u32 M] 102 from ((H.out.drewN 1).blk.set 2 _).of_eq (by simp))
    have HK := Lib.hid (show Kept (fun i => i = b) w ((w.drewN 1).setCell ⟨b, 2, none⟩ (.int .u32 U')) from ((Kept.refl (fun i => i = b) w).drewN 1).set (p := ⟨b, 2, none⟩) (.inl rfl) _)
    generalize (w.drewN 1).setCell ⟨b, 2, none⟩ (.int .u32 U') = w3 at *
    clear c0 c1 c2 c3 f0 f1 f2 f3 H H1 c2'
    obtain ⟨c0, c1, c2, c3, f0, f1, f2, f3⟩ := HB.out.four
    have HB1 := Lib.hid (show Blk (w3.drewN 1) b _ _ from HB.out)
    go_wp2_with fail
    go_region_with (go_at_call 87; refine (bit_at _ _ _ _ _ _ _ HB1.out HN.out hkn).mono ?_; rw [HZ.out]; rintro e w1 ⟨rfl, rfl⟩; dsimp only)
    all_goals
      go_wp2_with fail
      go_ret
      exact ⟨rfl, HF.out _ ((HB1.out.set 3 _).of_eq (by simp)), (HK.out.drewN 1).set (p := ⟨b, 3, none⟩) (.inl rfl) _⟩
end Go.Proofs.YtfgpadkoonogpaaDoor.Pg

namespace Go.Proofs.YtfgpadkoonogpaaDoor.Pg
open Go.RowKit Bit
set_option linter.unusedSimpArgs false
set_option linter.unusedVariables false

theorem infoI : (Tryd.prog.info? 3).map (fun i => (i.zero, i.size, i.bytes)) = some (some (.int .i64 0), 1, 8) := by kernel_rfl
theorem csl_bd (c : Int) : 0 ≤ Cls.csl c ∧ Cls.csl c ≤ 32 := by unfold Cls.csl; omega
theorem new_no (c : Int) (w : World) (h : Cls.csl c = 0) :
    Calls Tryd.prog 44 #[.int .i64 c] w fun e w' => e = .returned (.tuple #[.pointer none, .int .i64 1]) ∧ w = w' := by
  have H := Lib.hid h
  clear h
  go_enter Tryd.func44, Tryd.ntmps44
  go_wp2_with fail
  refine (Cls.slots_any _ _).mono ?_
  rw [H.out]
  rintro e w1 ⟨rfl, rfl⟩
  dsimp only
  go_wp2_with fail
  go_ret2
  exact ⟨rfl, rfl⟩
theorem new_yes (c : Int) (n : Nat) (w : World) (h : Cls.csl c = (n : Int)) (h0 : 0 < n) :
    Calls Tryd.prog 44 #[.int .i64 c] w fun e w' => e = .returned (.tuple #[.pointer (some ⟨w.heap.size, 0, none⟩), .int .i64 0]) ∧ PageAt w' w.heap.size c n 0 0 ∧ Below w.heap.size w w' := by
  have hn : n ≤ 32 := by have := csl_bd c; omega
  have H := Lib.hid h
  have hn0 : ((n : Int) == 0) = false := by simp; omega
  clear h
  go_enter Tryd.func44, Tryd.ntmps44
  go_wp2_with fail
  refine (Cls.slots_any _ _).mono ?_
  rw [H.out]
  rintro e w1 ⟨rfl, rfl⟩
  dsimp only
  go_wp2_with fail
  go_ret2
  exact ⟨rfl, ⟨Blk.new w _ _, hn, h0, by omega, by omega, fun i hi => by simp at hi, fun i hi => by simp at hi⟩, (Below.refl _ _).alloc (Nat.le_refl _) _⟩
theorem class_any (b : Nat) (c : Int) (n U M : Nat) (w : World) (h : PageAt w b c n U M) :
    Calls Tryd.prog 23 #[.pointer (some ⟨b, 0, none⟩)] w fun e w' => e = .returned (.int .i64 c) ∧ w = w' := by
  obtain ⟨c0, c1, c2, c3, f0, f1, f2, f3⟩ := h.blk.four
  have hn0 : ((n : Int) == 0) = false := by have := h.n0; simp; omega
  clear h
  go_enter Tryd.func23, Tryd.ntmps23
  go_wp2_with fail
  go_ret
  exact ⟨rfl, rfl⟩
theorem count_any (b : Nat) (c : Int) (n U M : Nat) (w : World) (h : PageAt w b c n U M) :
    Calls Tryd.prog 49 #[.pointer (some ⟨b, 0, none⟩)] w fun e w' => e = .returned (.tuple #[.int .i64 n, .int .i64 (bl U).length]) ∧ ∃ k, w' = w.drewN k := by
  obtain ⟨c0, c1, c2, c3, f0, f1, f2, f3⟩ := h.blk.four
  have hU := h.hU
  have HO := Lib.hid (fun k => (ones_any U hU (w.drewN k)).mono fun e w' (hh : e = .returned (.int .i64 (popc U)) ∧ ∃ n, w' = (w.drewN k).drewN n) => (⟨hh.1.trans (by rw [popc_bl U hU]), hh.2.elim fun m hm => ⟨_, hm.trans (World.drewN_drewN _ _ _)⟩⟩ : e = .returned (.int .i64 (bl U).length) ∧ ∃ n, w' = w.drewN n))
  clear h
  go_enter Tryd.func49, Tryd.ntmps49
  go_wp2_with fail
  go_quiet ((go_at_call 89; exact HO.out _))
  go_wp2_with fail
  go_ret2
  exact ⟨rfl, _, rfl⟩
/-- The numbers of a word, in memory of the call's own. -/
def ints (l : List Nat) : List Int := l.map fun (k : Nat) => (k : Int)
theorem ints_len (l : List Nat) : (ints l).length = l.length := by simp [ints]
def nats (l : List Nat) : List Value := (ints l).map (Value.int .i64)
def Lists (l : List Nat) (w : World) (e : Ending) (w' : World) : Prop :=
  ∃ a c, e = .returned (.slice a l.length c) ∧ w'.ownsRow w.heap.size 3 1 (.slice a l.length c) l.length (nats l) ∧ Below w.heap.size w w'
set_option maxHeartbeats 1000000 in
theorem slots_any (x : Nat) (hx : x < 4294967296) (w : World) (hT : Tab w) : Calls Tryd.prog 90 #[.int .u32 x] w (Lists (bl x) w) := by
  obtain ⟨i0, hi0, hz0, hz1, hz2⟩ := info_parts infoI
  have HI := Lib.hid (⟨hi0, hz0, hz1, hz2⟩ : Tryd.prog.info? 3 = some i0 ∧ i0.zero = some (.int .i64 0) ∧ i0.size = 1 ∧ i0.bytes = 8)
  have HT := Lib.hid hT
  clear hi0 hz0 hz1 hz2 hT
  go_enter Tryd.func90, Tryd.ntmps90
  go_wp2_with fail
  go_loopw [0, 3] (fun y v wr => ∃ (z : Nat) (done : List Nat) (a : Option Addr) (c : Nat), z < 4294967296 ∧ y = .int .u32 z ∧ v = .slice a done.length c ∧ bl x = done ++ bl z ∧ wr.ownsRow w.heap.size 3 1 (.slice a done.length c) done.length (nats done) ∧ Below w.heap.size w wr) (fun y _ _ => (intOf y).toNat)
  case atStart => exact ⟨x, [], none, 0, hx, rfl, rfl, rfl, World.ownsRow_nil _ _ _ _, Below.refl _ _⟩
  case round =>
    obtain ⟨z, done, a, c, hz, rfl, rfl, hd, ho, hb⟩ := hrel
    have HD := Lib.hid hd
    have HO := Lib.hid ho
    have HB := Lib.hid hb
    have hB := hb.size
    clear hd ho hb
    by_cases h0 : z = 0
    · subst h0
      go_wp2_with fail
      go_ret
      have : bl x = done := by rw [HD.out, bl_zero, List.append_nil]
      rw [this]
      exact ⟨a, c, rfl, HO.out, HB.out⟩
    · have hz0 : ((z : Int) != 0) = true := by simp; exact h0
      have hlen : done.length ≤ 32 := by have := sl_len 32 x.testBit; have e : (bl x).length ≤ 32 := this; rw [HD.out, List.length_append] at e; omega
      have hst := bl_step h0 hz
      have hzz : z &&& (z - 1) < 4294967296 := by have := strike_lt h0; omega
      have hlt := strike_lt h0
      have hand := and32 z (z - 1) hz (by omega)
      rw [show ((z - 1 : Nat) : Int) = (z : Int) - 1 by omega] at hand
      have hw1 : IntKind.u32.wrap ((z : Int) - 1) = (z : Int) - 1 := by simp [IntKind.wrap, IntKind.signed, IntKind.bits]; omega
      have hz1 : (1 : Int) ≤ (z : Int) := by omega
      have hz2 : (z : Int) ≤ 4294967295 := by omega
      generalize hq : z &&& (z - 1) = q at *
      generalize hk : Lib.ctz 32 z = k at *
      have HK := Lib.hid hk
      have HS := Lib.hid hst
      clear hst h0 hq hk
      have hlen2 : (done.length : Int) ≤ 32 := by omega
      go_wp2_with fail
      refine (tz_any z hz _ (HT.out.below HB.out (HT.out).1)).mono ?_
      rw [HK.out]
      rintro e w1 ⟨rfl, rfl⟩
      dsimp only
      go_wp2_with (first
        | (at_builtin; go_loud (refine wpList_app _ rfl _ _ 27 rfl w.heap.size 3 i0 (.int .i64 0) 1 8 Tryd.underlying27 HI.out.1 HI.out.2.1 HI.out.2.2.1 HI.out.2.2.2 rfl (by decide) _ _ _ rfl (HO.out.alloc _) (wr.heap.size + 1) _ 1 1 [.int .i64 (k : Int)] rfl (Blk.reads (Blk.new wr _ _) (by simp) rfl rfl (by decide)) ?c1 ?c2 ?c3 ?c4 ?_))
        | fail)
      case c1 => intro u hu; simp at hu; subst hu; rfl
      case c2 => unfold maxLen; omega
      case c3 => omega
      case c4 => simp; omega
      intro a' c' w2 ho2 hg2 hat2
      have HO2 := Lib.hid (show w2.ownsRow w.heap.size 3 1 (.slice a' (done ++ [k]).length c') (done ++ [k]).length (nats (done ++ [k])) from by simpa [nats, ints] using ho2)
      have HW := Lib.hid (show Below w.heap.size w w2 from (fresh_alloc HB.out _).grown hg2 (by simp; omega) (fun k hk => (HO.out.lt k hk).1))
      have HL := Lib.hid (show (done ++ [k]).length = done.length + 1 by simp)
      clear ho2 hg2 hat2
      go_wp2_with fail
      go_roundw
      case rel => exact ⟨q, done ++ [k], a', c', hzz, rfl, by rw [HL.out], by rw [HD.out, HS.out]; simp, HO2.out, HW.out⟩
      case measure => simp [intOf]; omega
end Go.Proofs.YtfgpadkoonogpaaDoor.Pg

namespace Go.Proofs.YtfgpadkoonogpaaDoor.Pg
open Go.RowKit Bit
set_option linter.unusedSimpArgs false
set_option linter.unusedVariables false

theorem all_any (b : Nat) (c : Int) (n U M : Nat) (w : World) (h : PageAt w b c n U M) (hT : Tab w) :
    Calls Tryd.prog 50 #[.pointer (some ⟨b, 0, none⟩)] w (Lists (bl U) w) := by
  obtain ⟨c0, c1, c2, c3, f0, f1, f2, f3⟩ := h.blk.four
  have HS := Lib.hid (slots_any U h.hU w hT)
  clear h hT
  go_enter Tryd.func50, Tryd.ntmps50
  go_wp2_with fail
  refine HS.out.mono ?_
  rintro e w1 ⟨a, l, rfl, ho, hb⟩
  have HO := Lib.hid (show Lists (bl U) w (.returned (.slice a (bl U).length l)) w1 from ⟨a, l, rfl, ho, hb⟩)
  clear ho hb
  dsimp only
  go_wp2_with fail
  go_ret
  exact HO.out
theorem class_nil (w : World) : Calls Tryd.prog 23 #[.pointer none] w fun e w' => e = .returned (.int .i64 (-1)) ∧ w = w' := by
  go_enter Tryd.func23, Tryd.ntmps23
  go_wp2_with fail
  go_ret
  exact ⟨rfl, rfl⟩
theorem take_nil (w : World) : Calls Tryd.prog 45 #[.pointer none] w fun e w' => e = .returned (.tuple #[.int .i64 0, .bool false]) ∧ w = w' := by
  go_enter Tryd.func45, Tryd.ntmps45
  go_wp2_with fail
  go_ret2
  exact ⟨rfl, rfl⟩
theorem count_nil (w : World) : Calls Tryd.prog 49 #[.pointer none] w fun e w' => e = .returned (.tuple #[.int .i64 0, .int .i64 0]) ∧ w = w' := by
  go_enter Tryd.func49, Tryd.ntmps49
  go_wp2_with fail
  go_ret2
  exact ⟨rfl, rfl⟩
theorem all_nil (w : World) : Calls Tryd.prog 50 #[.pointer none] w fun e w' => e = .returned (.slice none 0 0) ∧ w = w' := by
  go_enter Tryd.func50, Tryd.ntmps50
  go_wp2_with fail
  go_ret
  exact ⟨rfl, rfl⟩
theorem used_nil (k : Int) (w : World) : Calls Tryd.prog 88 #[.pointer none, .int .i64 k] w fun e w' => e = .returned (.bool false) ∧ w = w' := by
  go_enter Tryd.func88, Tryd.ntmps88
  go_wp2_with fail
  refine (bit_nil _ _).mono ?_
  rintro e w1 ⟨rfl, rfl⟩
  dsimp only
  go_wp2_with fail
  go_ret
  exact ⟨rfl, rfl⟩
theorem free_nil (k : Int) (w : World) : Calls Tryd.prog 48 #[.pointer none, .int .i64 k] w fun e w' => e = .returned (.bool false) ∧ w = w' := by
  go_enter Tryd.func48, Tryd.ntmps48
  go_wp2_with fail
  refine (used_nil _ _).mono ?_
  rintro e w1 ⟨rfl, rfl⟩
  dsimp only
  go_wp2_with fail
  go_ret
  exact ⟨rfl, rfl⟩
end Go.Proofs.YtfgpadkoonogpaaDoor.Pg
