/- Package besombook: Room and Small: whatever a program is, they answer. What a program that came in is in memory. -/
import Derived.Test.YtnolkgciapggdaaProg
import Derived.Test.YtnolkgciapggdaaLib
import Derived.Test.YtnolkgciapggdaaArgs
import Derived.Test.YtnolkgciapggdaaApp
import Derived.Deep.CutBlock
import Derived.Deep.CutRange
namespace Go.Proofs.Ytnolkgciapggdaa.Prg
open Go.RowKit
set_option linter.unusedSimpArgs false
set_option linter.unusedVariables false

/-- A slice of functions. -/
structure Funcs (w : World) (FA : Option Addr) (nF cF : Nat) : Prop where
  le : nF ≤ cF
  mx : cF ≤ maxLen
  each : ∀ i, i < nF → ∃ (b off : Nat) (KA : Option Addr) (nK cK : Nat) (ks : List Int) (r s : Int) (OA : Option Addr) (nO cO : Nat) (CA : Option Addr) (nC cC : Nat), FA = some ⟨b, off, none⟩ ∧ b < w.heap.size ∧
    w.cell? ⟨b, off + i * 5, none⟩ = some (.slice KA nK cK) ∧ w.cell? ⟨b, off + i * 5 + 1, none⟩ = some (.int .i64 r) ∧ w.cell? ⟨b, off + i * 5 + 2, none⟩ = some (.int .i64 s) ∧
    w.cell? ⟨b, off + i * 5 + 3, none⟩ = some (.slice OA nO cO) ∧ w.cell? ⟨b, off + i * 5 + 4, none⟩ = some (.slice CA nC cC) ∧ ks.length = nK ∧ Reads w w.heap.size 1 KA nK cK (ks.map (.int .i64)) ∧ nO ≤ maxLen ∧ nC ≤ maxLen
/-- A slice of shapes. -/
structure Shapes (w : World) (SA : Option Addr) (nS cS : Nat) : Prop where
  le : nS ≤ cS
  mx : cS ≤ maxLen
  each : ∀ i, i < nS → ∃ (b off : Nat) (A : Option Addr) (n c : Nat), SA = some ⟨b, off, none⟩ ∧ b < w.heap.size ∧ w.cell? ⟨b, off + i, none⟩ = some (.slice A n c) ∧ n ≤ maxLen
theorem room_any (r0 : Int) (A : Option Addr) (n c B : Nat) (xs : List Int) (w : World) (h : -1 ≤ r0 ∧ r0 ≤ 3000) (hR : Reads w B 1 A n c (xs.map (.int .i64))) (h0 : ∀ x ∈ xs, 0 ≤ x) (hn : n ≤ 3) :
    Calls Try.prog 53 #[.int .i64 r0, .slice A n c] w fun e w' => ∃ r : Int, e = .returned (.int .i64 r) ∧ -1 ≤ r ∧ r ≤ 3000 ∧ w = w' := by
  have HR := Lib.hid hR
  have H0 := Lib.hid h0
  have hlm : xs.length = n := by have := hR.2.2.1; simpa using this
  obtain ⟨h1, h2⟩ := h
  clear hR h0
  go_enter Try.func53, Try.ntmps53
  go_wp2_with fail
  go_loopw [0, 5] (fun rv i wr => ∃ (r : Int) (k : Nat), k ≤ n ∧ i = .int .i64 (k : Int) ∧ rv = .int .i64 r ∧ -1 ≤ r ∧ r ≤ 3000 ∧ w = wr) (fun _ i _ => n - (intOf i).toNat)
  case atStart => exact ⟨r0, 0, Nat.zero_le _, rfl, rfl, h1, h2, rfl⟩
  case round =>
    obtain ⟨r, k, hk, rfl, rfl, hr1, hr2, rfl⟩ := hrel
    by_cases hlt : k < n
    · have h3 : (k : Int) < (n : Int) := by omega
      obtain ⟨x, hx⟩ : ∃ x, xs[k]? = some x := ⟨_, List.getElem?_eq_getElem (by omega)⟩
      have hxv : (xs.map (Value.int .i64))[k]? = some (.int .i64 x) := by simp [hx]
      obtain ⟨b, off, rfl, hb, hc⟩ := HR.out.at_ hxv
      have hx0 := H0.out x (List.mem_of_getElem? hx)
      clear hx hxv
      by_cases hneg : r < 0
      · go_wp2_with fail
        go_ret
        exact ⟨-1, rfl, by omega, by omega, rfl⟩
      · by_cases hgt : r < x
        · go_wp2_with fail
          go_ret
          exact ⟨-1, rfl, by omega, by omega, rfl⟩
        · have hle : x ≤ r := by omega
          go_wp2_with fail
          go_roundw
          case rel => exact ⟨r - x, k + 1, by omega, by go_num, by go_num, by omega, by omega, trivial⟩
          case measure => simp [intOf]; omega
    · have h3 : ¬ (k : Int) < (n : Int) := by omega
      go_wp2_with fail
      go_ret
      exact ⟨r, rfl, hr1, hr2, rfl⟩
/-- A bool comes back. -/
def IsBool (e : Ending) : Prop := ∃ b : Bool, e = .returned (.bool b)
theorem small_any (GA : Option Addr) (nG cG : Nat) (SA : Option Addr) (nS cS : Nat) (FA : Option Addr) (nF cF : Nat) (w : World) (hG : nG ≤ maxLen) (hS : Shapes w SA nS cS) (hF : Funcs w FA nF cF) :
    Calls Try.prog 32 #[.agg #[.slice GA nG cG, .slice SA nS cS, .slice FA nF cF]] w fun e w' => IsBool e ∧ Below w.heap.size w w' := by
  have HS := Lib.hid hS
  have HF := Lib.hid hF
  have hsm : nS ≤ 9223372036854775807 := by have := hS.le; have := hS.mx; unfold maxLen at this; omega
  have hfm : nF ≤ 9223372036854775807 := by have := hF.le; have := hF.mx; unfold maxLen at this; omega
  have hgm : nG ≤ 9223372036854775807 := by unfold maxLen at hG; omega
  clear hS hF hG
  go_enter Try.func32, Try.ntmps32
  have HB0 := Lib.hid (Blk.new w #[.slice GA nG cG, .slice SA nS cS, .slice FA nF cF] 53)
  have hbe0 := (Below.refl w.heap.size w).alloc (Nat.le_refl _) (.cells #[.slice GA nG cG, .slice SA nS cS, .slice FA nF cF] 53)
  have HBE0 := Lib.hid hbe0
  clear hbe0
  go_wp2_with fail
  obtain ⟨bp, hbp⟩ : ∃ bp, w.heap.size = bp := ⟨_, rfl⟩
  have h3 := Blk.reads (B := w.heap.size + 1 + 1) (xs := [(nG : Int), nS, nF].map (Value.int .i64)) (n := 3) (Blk.new (w.alloc (.cells #[.slice GA nG cG, .slice SA nS cS, .slice FA nF cF] 53)) #[.int .i64 nG, .int .i64 nS, .int .i64 nF] 3) (by simp) rfl rfl (by decide)
  rw [World.size_alloc] at h3
  refine (room_any 3000 _ 3 3 _ [nG, nS, nF] _ (by omega) h3 (by intro x hx; simp at hx; omega) (by omega)).mono ?_
  clear h3
  rintro e w2 ⟨r, rfl, hr1, hr2, rfl⟩
  have H1 := Lib.hid (show Below w.heap.size w ((w.alloc (.cells #[.slice GA nG cG, .slice SA nS cS, .slice FA nF cF] 53)).alloc (.cells #[.int .i64 nG, .int .i64 nS, .int .i64 nF] 3)) from HBE0.out.alloc (by simp) _)
  have H2 := Lib.hid (HB0.out.alloc (.cells #[.int .i64 nG, .int .i64 nS, .int .i64 nF] 3))
  rw [hbp] at H2 ⊢
  generalize (w.alloc (.cells #[.slice GA nG cG, .slice SA nS cS, .slice FA nF cF] 53)).alloc (.cells #[.int .i64 nG, .int .i64 nS, .int .i64 nF] 3) = w3 at *
  clear HB0 HBE0
  dsimp only
  go_wp2_with fail
  go_loopw [3, 4] (fun rv i wr => ∃ (r : Int) (k : Nat), k ≤ nS ∧ i = .int .i64 (k : Int) ∧ rv = .int .i64 r ∧ -1 ≤ r ∧ r ≤ 3000 ∧ Below w.heap.size w wr ∧ Blk wr bp #[.slice GA nG cG, .slice SA nS cS, .slice FA nF cF] 53) (fun _ i _ => nS - (intOf i).toNat)
  case atStart => exact ⟨r, 0, Nat.zero_le _, rfl, rfl, hr1, hr2, H1.out, H2.out⟩
  case round =>
    clear hr1 hr2
    obtain ⟨r, k, hk, rfl, rfl, hr1, hr2, hbe, hbk⟩ := hrel
    have HBE := Lib.hid hbe
    have HBK := Lib.hid hbk
    obtain ⟨c0, c1, c2, f0, f1, f2⟩ := hbk.three
    have hz := hbe.size
    clear hbe hbk H1 H2
    by_cases hgo : k < nS ∧ 0 ≤ r
    · obtain ⟨hlt, hr0⟩ := hgo
      have h3 : (k : Int) < (nS : Int) := by omega
      obtain ⟨b, off, A, n, c, rfl, hb, hc, hn⟩ := HS.out.each k hlt
      have hc' := (HBE.out.cell (p := ⟨b, off + k, none⟩) hb).trans hc
      have hn' : n ≤ 9223372036854775807 := by unfold maxLen at hn; omega
      go_wp2_with fail
      refine (room_any r _ 1 1 (wr.heap.size + 1) [n] _ ⟨hr1, hr2⟩ (Blk.reads (Blk.new wr _ _) (by omega) rfl rfl (by decide)) (by intro x hx; simp at hx; omega) (by omega)).mono ?_
      rintro e w5 ⟨r5, rfl, h51, h52, rfl⟩
      have H5 := Lib.hid (HBE.out.alloc (Nat.le_trans HBE.out.size (Nat.le_refl _)) (.cells #[.int .i64 n] 3))
      have H6 := Lib.hid (HBK.out.alloc (.cells #[.int .i64 n] 3))
      dsimp only
      go_wp2_with fail
      go_roundw
      case rel => exact ⟨r5, k + 1, by omega, by go_num, rfl, h51, h52, H5.out, H6.out⟩
      case measure => simp [intOf]; omega
    · have hcase : ¬ k < nS ∨ (k < nS ∧ r < 0) := by omega
      clear hgo
      go_upto_region 3 with (fail)
      go_cut [26] from 18 to 26 (fun p wx => p = .bool false ∧ wx = wr)
      case first =>
        rcases hcase with h | ⟨h, h'⟩
        · have h3 : ¬ (k : Int) < (nS : Int) := by omega
          clear h hk
          go_wp2_with fail
          go_meet
          exact ⟨rfl, rfl⟩
        · have h3 : (k : Int) < (nS : Int) := by omega
          have hd := Lib.hid (show decide (0 ≤ r) = false by simp; omega)
          go_wp2_with fail
          go_meet
          exact ⟨by first | rfl | rw [hd.out], rfl⟩
      case rest =>
        obtain ⟨rfl, rfl⟩ := hcut
        clear hcase
        obtain ⟨wo, rfl⟩ : ∃ wo : World, wo = wc := ⟨_, rfl⟩
        go_wp2_with fail
        go_loopw [3, 5] (fun rv i wr => ∃ (r : Int) (k : Nat), k ≤ nF ∧ i = .int .i64 (k : Int) ∧ rv = .int .i64 r ∧ -1 ≤ r ∧ r ≤ 3000 ∧ Below w.heap.size w wr ∧ Blk wr bp #[.slice GA nG cG, .slice SA nS cS, .slice FA nF cF] 53) (fun _ i _ => nF - (intOf i).toNat)
        case atStart => exact ⟨r, 0, Nat.zero_le _, rfl, rfl, hr1, hr2, HBE.out, HBK.out⟩
        case round =>
          clear hr1 hr2
          obtain ⟨r, j, hj, rfl, rfl, hr1, hr2, hbe, hbk⟩ := hrel
          have HBE2 := Lib.hid hbe
          have HBK2 := Lib.hid hbk
          obtain ⟨d0, d1, d2, g0, g1, g2⟩ := hbk.three
          have hz2 := hbe.size
          clear hbe hbk HBE HBK
          by_cases hj1 : j < nF
          · have h3 : (j : Int) < (nF : Int) := by omega
            by_cases hr0 : 0 ≤ r
            · obtain ⟨b, off, KA, nK, cK, ks, rr, ss, OA, nO, cO, CA, nC, cC, rfl, hb, e0, e1, e2, e3, e4, hks, hK, hO, hC⟩ := HF.out.each j hj1
              have hK1 := hK.1
              have hK2 := hK.2.1
              have e0' := (HBE2.out.cell (p := ⟨b, off + j * 5, none⟩) hb).trans e0
              have e1' := (HBE2.out.cell (p := ⟨b, off + j * 5 + 1, none⟩) hb).trans e1
              have e2' := (HBE2.out.cell (p := ⟨b, off + j * 5 + 2, none⟩) hb).trans e2
              have e3' := (HBE2.out.cell (p := ⟨b, off + j * 5 + 3, none⟩) hb).trans e3
              have e4' := (HBE2.out.cell (p := ⟨b, off + j * 5 + 4, none⟩) hb).trans e4
              have hnK : nK ≤ 9223372036854775807 := by unfold maxLen at hK2; omega
              have hnO : nO ≤ 9223372036854775807 := by unfold maxLen at hO; omega
              have hnC : nC ≤ 9223372036854775807 := by unfold maxLen at hC; omega
              clear hK hK1 hK2 hO hC hks e0 e1 e2 e3 e4
              go_wp2_with fail
              have h7 := Blk.reads (B := wr.heap.size + 1 + 1) (xs := [(nK : Int), nO, nC].map (Value.int .i64)) (n := 3) (Blk.new (wr.alloc (.cells #[.slice KA nK cK, .int .i64 rr, .int .i64 ss, .slice OA nO cO, .slice CA nC cC] 50)) #[.int .i64 nK, .int .i64 nO, .int .i64 nC] 3) (by simp) rfl rfl (by decide)
              rw [World.size_alloc] at h7
              refine (room_any r _ 3 3 _ [nK, nO, nC] _ ⟨hr1, hr2⟩ h7 (by intro x hx; simp at hx; omega) (by omega)).mono ?_
              rintro e w5 ⟨r5, rfl, h51, h52, rfl⟩
              have H5 := Lib.hid ((HBE2.out.alloc HBE2.out.size (.cells #[.slice KA nK cK, .int .i64 rr, .int .i64 ss, .slice OA nO cO, .slice CA nC cC] 50)).alloc (by simp; have := HBE2.out.size; omega) (.cells #[.int .i64 nK, .int .i64 nO, .int .i64 nC] 3))
              have H6 := Lib.hid ((HBK2.out.alloc (.cells #[.slice KA nK cK, .int .i64 rr, .int .i64 ss, .slice OA nO cO, .slice CA nC cC] 50)).alloc (.cells #[.int .i64 nK, .int .i64 nO, .int .i64 nC] 3))
              clear h7
              dsimp only
              go_wp2_with fail
              go_roundw
              case rel => exact ⟨r5, j + 1, by omega, by go_num, rfl, h51, h52, H5.out, H6.out⟩
              case measure => simp [intOf]; omega
            · have hr0' : r < 0 := by omega
              go_wp2_with fail
              go_ret
              exact ⟨⟨_, rfl⟩, hbp ▸ HBE2.out⟩
          · have h3 : ¬ (j : Int) < (nF : Int) := by omega
            go_wp2_with fail
            go_ret
            exact ⟨⟨_, rfl⟩, hbp ▸ HBE2.out⟩
end Go.Proofs.Ytnolkgciapggdaa.Prg
