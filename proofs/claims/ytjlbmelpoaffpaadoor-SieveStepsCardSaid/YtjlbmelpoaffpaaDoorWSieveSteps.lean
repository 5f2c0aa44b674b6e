/- The walk of besomlaw1.SieveSteps: it returns true, and writes nothing that was there. -/
import Derived.Test.YtjlbmelpoaffpaaDoorSvA
namespace Go.Proofs.YtjlbmelpoaffpaaDoor.SieveSteps
open Go.RowKit Sv Wd Bit
set_option linter.unusedSimpArgs false
set_option linter.unusedVariables false

theorem both (p : Nat → Bool) : ∀ n, (sl n p).length + (sl n fun i => !p i).length = n
  | 0 => rfl
  | n + 1 => by
    have hs : ∀ r : Nat → Bool, (sl (n + 1) r).length = (sl n r).length + if r n then 1 else 0 := by
      intro r
      unfold sl
      rw [List.range_succ, List.filter_append, List.length_append]
      cases h : r n <;> simp [h]
    rw [hs, hs]
    have := both p n
    cases h : p n <;> simp <;> omega
theorem both_gap {n : Nat} (W : List Nat) : (sl n (has W)).length + (sl n (gapP n W)).length = n := by
  have h : sl n (gapP n W) = sl n fun i => !has W i := sl_congr fun i hi => by unfold gapP; simp [hi]
  rw [h]
  exact both _ n
theorem len_next {p : Nat → Bool} {f j : Nat} (hj : f ≤ j) (hp : p j = true) (hno : ∀ i, f ≤ i → i < j → p i = false) : (sl (j + 1) p).length = (sl f p).length + 1 := by rw [sl_next hj hp hno]; simp
set_option maxRecDepth 100000 in
theorem early (x : Int) (A : Option Addr) (m c : Nat) (w : World) (hT : Tab w) (h : x < 1 ∨ 300 < x ∨ 100 < m) :
    Calls Tryd.prog 4 #[.int .i64 x, .slice A m c] w fun e w' => e = .returned (.bool true) ∧ Below w.heap.size w w' := by
  have HT := Lib.hid hT
  clear hT
  by_cases h1 : x < 1
  · clear h
    go_enter Tryd.func4, Tryd.ntmps4
    go_wp2_with fail
    refine (alive _ HT.out).mono ?_
    rintro e w2 ⟨rfl, hb2⟩
    dsimp only
    go_wp2_with fail
    go_ret
    exact ⟨rfl, hb2⟩
  by_cases h2 : 300 < x
  · clear h
    go_enter Tryd.func4, Tryd.ntmps4
    go_wp2_with fail
    refine (alive _ HT.out).mono ?_
    rintro e w2 ⟨rfl, hb2⟩
    dsimp only
    go_wp2_with fail
    go_ret
    exact ⟨rfl, hb2⟩
  · have h3 : (100 : Int) < (m : Int) := by rcases h with h | h | h <;> first | omega | exact absurd h (by assumption)
    clear h
    go_enter Tryd.func4, Tryd.ntmps4
    go_wp2_with fail
    refine (alive _ HT.out).mono ?_
    rintro e w2 ⟨rfl, hb2⟩
    dsimp only
    go_wp2_with fail
    go_ret
    exact ⟨rfl, hb2⟩
set_option maxRecDepth 100000 in
set_option maxHeartbeats 4000000 in
theorem core (n : Nat) (A : Option Addr) (m c : Nat) (l : List Int) (w : World) (hT : Tab w) (hl : l.length = m) (wl : ∀ x ∈ l, (Lit.int .i64 x).wf = true) (hR : Reads w w.heap.size 1 A m c (l.map (.int .i64))) (hn1 : 1 ≤ n) (hn : n ≤ 300) (hm : m ≤ 100) :
    Calls Tryd.prog 4 #[.int .i64 n, .slice A m c] w fun e w' => e = .returned (.bool true) ∧ Below w.heap.size w w' := by
  have HT := Lib.hid hT
  have hw0 := hT.1
  have HR := Lib.hid hR
  have WL := Lib.hid wl
  have HA := Lib.hid (show ∀ g, w.heap.size ≤ g → 0 < m → ∀ a, A = some a → a.block ≠ g from fun g hg hm a e => by
    obtain ⟨b, off, e2, hb, _⟩ := hR.2.2.2 hm
    rw [e] at e2; injection e2 with e2; subst e2
    intro e3
    have e3 : b = g := e3
    omega)
  have n1 : (1 : Int) ≤ (n : Int) := by omega
  have n2 : (n : Int) ≤ 300 := by omega
  have m1 : (m : Int) ≤ 100 := by omega
  clear hT hR wl
  go_enter Tryd.func4, Tryd.ntmps4
  go_wp2_with fail
  refine (alive _ HT.out).mono ?_
  rintro e w1 ⟨rfl, hb1⟩
  have HB1 := Lib.hid hb1
  clear hb1
  dsimp only
  go_wp2_with fail
  refine (new_any (n : Int) _).mono ?_
  rintro e w2 hmade
  obtain ⟨b, g, rfl, hs⟩ := SW.made (HT.out.call HB1.out) hmade
  rw [show (min (max (n : Int) 0) 4096).toNat = n by omega] at hs
  have H2 := Lib.hid (show SW w w2 b g n (List.replicate ((n + 63) / 64) 0) from ⟨hs.sv, ⟨Nat.le_trans HB1.out.size hs.new.1, Nat.le_trans HB1.out.size hs.new.2⟩, below_call HB1.out HB1.out.size hs.bel, hs.tab⟩)
  obtain ⟨W1, a, h1⟩ : ∃ W1 a, runL n true (List.replicate ((n + 63) / 64) 0) l = (W1, a) := ⟨_, _, rfl⟩
  generalize List.replicate ((n + 63) / 64) 0 = W at *
  have R1 := Lib.hid h1
  have HM : m ≤ 1000000 := by omega
  clear hs hmade HB1 h1
  dsimp only
  go_wp2_with fail
  refine (put_any b g n W A m c w.heap.size l _ H2.out.sv (HR.out.below H2.out.bel) H2.out.bel.size (HA.out g H2.out.new.2) WL.out HM).mono ?_
  rw [R1.out]
  rintro e w3 ⟨rfl, hs, hk⟩
  have H3 := Lib.hid (H2.out.step hw0 hs hk)
  clear hs hk H2 R1 HR HA WL
  dsimp only
  go_wp2_with fail
  refine (next_any b g n W1 0 0 (by decide) (by decide) _ H3.out.sv H3.out.tab).mono ?_
  rintro e w4 ⟨r0, rfl, hr0, rfl⟩
  have HR0 := Lib.hid hr0
  have HIN := Lib.hid H3.out.sv.inn
  clear hr0
  dsimp only
  go_wp2_with fail
  have hz3 := H3.out.bel.size
  go_loopw [6, 8] (fun q k wr => ∃ (f s : Nat) (r : Int), f ≤ n ∧ k = .int .i64 r ∧ q = .int .i64 (s : Int) ∧ s = (sl f (has W1)).length ∧ s ≤ f ∧ Nxt (has W1) f r ∧ SW w wr b g n W1) (fun _ k _ => left n k)
  case atStart => exact ⟨0, 0, r0, Nat.zero_le _, rfl, rfl, rfl, Nat.le_refl _, HR0.out, H3.out⟩
  case round =>
    obtain ⟨f, s, r, hf, rfl, rfl, hsl, hsf, hx, hsw⟩ := hrel
    have HS := Lib.hid hsl
    have H := Lib.hid hsw
    clear hsl hsw H3 HR0
    have hs3 : (s : Int) ≤ (n : Int) := by omega
    rcases hx with ⟨rfl, hno⟩ | ⟨j, rfl, hj1, hj2, hj3⟩
    · have HE := Lib.hid (show (sl n (has W1)).length = s from by rw [HS.out, sl_end hf hno])
      have HCN := Lib.hid ((cnt_sl H.out.sv.ok).trans HE.out)
      have HBO := Lib.hid (both_gap (n := n) W1)
      rw [HE.out] at HBO
      clear hno
      obtain ⟨wo, rfl⟩ : ∃ wo : World, wo = wr := ⟨_, rfl⟩
      go_wp2_with fail
      refine (gap_any b g n W1 (-5) 0 (by decide) (by decide) _ H.out.sv H.out.tab).mono ?_
      rintro e w5 ⟨r5, rfl, hr5, hb5⟩
      have HR5 := Lib.hid hr5
      have H5 := Lib.hid (H.out.call hb5)
      clear hr5 hb5
      dsimp only
      go_wp2_with fail
      go_loopw [7, 9] (fun q k wr => ∃ (f s : Nat) (r : Int), f ≤ n ∧ k = .int .i64 r ∧ q = .int .i64 (s : Int) ∧ s = (sl f (gapP n W1)).length ∧ s ≤ f ∧ Nxt (gapP n W1) f r ∧ SW w wr b g n W1) (fun _ k _ => left n k)
      case atStart => exact ⟨0, 0, r5, Nat.zero_le _, rfl, rfl, rfl, Nat.le_refl _, HR5.out, H5.out⟩
      case round =>
        obtain ⟨f2, s2, r2, hf2, rfl, rfl, hsl2, hsf2, hx2, hsw2⟩ := hrel
        have HS2 := Lib.hid hsl2
        have HX := Lib.hid hsw2
        clear hsl2 hsw2 H5 HR5
        have hs4 : (s2 : Int) ≤ (n : Int) := by omega
        rcases hx2 with ⟨rfl, hno⟩ | ⟨j, rfl, hj1, hj2, hj3⟩
        · have hbo := HBO.out
          have h2 : (sl n (gapP n W1)).length = s2 := by rw [HS2.out, sl_end hf2 hno]
          have hsum : (s : Int) + (s2 : Int) = (n : Int) := by omega
          clear hno h2 hbo
          go_wp2_with fail
          refine (count_any b g n W1 _ HX.out.sv).mono ?_
          rw [HCN.out]
          rintro e w6 ⟨rfl, d, rfl⟩
          have H6 := Lib.hid (HX.out.drewN d)
          dsimp only
          go_wp2_with fail
          go_ret
          exact ⟨by go_num, H6.out.bel⟩
        · have HLN := Lib.hid (len_next hj1 hj2 hj3)
          have hjn : j < n ∧ has W1 j = false := by unfold gapP at hj2; simpa using hj2
          have HH := Lib.hid (has_any b g n W1 (j : Int) wr HX.out.sv)
          rw [hasI_nat, hjn.2] at HH
          have hj4 : (0 : Int) ≤ (j : Int) := by omega
          have hj5 : (j : Int) ≤ 300 := by omega
          clear hj3 hj2
          go_wp2_with fail
          refine HH.out.mono ?_
          rintro e w6 ⟨rfl, hb6⟩
          have H6 := Lib.hid (HX.out.call hb6)
          clear hb6
          dsimp only
          go_wp2_with fail
          refine (gap_any b g n W1 ((j : Int) + 1) (j + 1) (by omega) (by omega) _ H6.out.sv H6.out.tab).mono ?_
          rintro e w7 ⟨r7, rfl, hr7, hb7⟩
          have HR7 := Lib.hid hr7
          have H7 := Lib.hid (H6.out.call hb7)
          clear hr7 hb7
          dsimp only
          go_wp2_with fail
          go_roundw
          case rel => exact ⟨j + 1, s2 + 1, r7, by omega, by first | rfl | go_num, by go_num, by rw [HLN.out, HS2.out], by omega, HR7.out, H7.out⟩
          case measure =>
            rcases HR7.out with ⟨rfl, _⟩ | ⟨i, rfl, h4, _⟩
            · show left n (.int .i64 (-1)) < left n (.int .i64 (j : Int))
              rw [left_neg, left_pos]; omega
            · show left n (.int .i64 (i : Int)) < left n (.int .i64 (j : Int))
              rw [left_pos, left_pos]; omega
    · have HLN := Lib.hid (len_next hj1 hj2 hj3)
      have hjn := HIN.out j hj2
      have HH := Lib.hid (has_any b g n W1 (j : Int) wr H.out.sv)
      rw [hasI_nat, hj2] at HH
      have hj4 : (0 : Int) ≤ (j : Int) := by omega
      have hj5 : (j : Int) ≤ 300 := by omega
      clear hj3 hj2
      go_wp2_with fail
      refine HH.out.mono ?_
      rintro e w6 ⟨rfl, hb6⟩
      have H6 := Lib.hid (H.out.call hb6)
      clear hb6
      dsimp only
      go_wp2_with fail
      refine (next_any b g n W1 ((j : Int) + 1) (j + 1) (by omega) (by omega) _ H6.out.sv H6.out.tab).mono ?_
      rintro e w7 ⟨r7, rfl, hr7, rfl⟩
      have HR7 := Lib.hid hr7
      clear hr7
      dsimp only
      go_wp2_with fail
      go_roundw
      case rel => exact ⟨j + 1, s + 1, r7, by omega, by first | rfl | go_num, by go_num, by rw [HLN.out, HS.out], by omega, HR7.out, H6.out⟩
      case measure =>
        rcases HR7.out with ⟨rfl, _⟩ | ⟨i, rfl, h4, _⟩
        · show left n (.int .i64 (-1)) < left n (.int .i64 (j : Int))
          rw [left_neg, left_pos]; omega
        · show left n (.int .i64 (i : Int)) < left n (.int .i64 (j : Int))
          rw [left_pos, left_pos]; omega
theorem walk (x : Int) (A : Option Addr) (m c : Nat) (l : List Int) (w : World) (hT : Tab w) (_w0 : (Lit.int .i64 x).wf = true) (hl : l.length = m) (wl : ∀ x ∈ l, (Lit.int .i64 x).wf = true) (hR : Reads w w.heap.size 1 A m c (l.map (.int .i64))) :
    Calls Tryd.prog 4 #[.int .i64 x, .slice A m c] w fun e w' => e = .returned (.bool true) ∧ Below w.heap.size w w' := by
  by_cases h : x < 1 ∨ 300 < x ∨ 100 < m
  · exact early x A m c w hT h
  · obtain ⟨n, rfl⟩ : ∃ n : Nat, x = n := ⟨x.toNat, by omega⟩
    exact core n A m c l w hT hl wl hR (by omega) (by omega) (by omega)
end Go.Proofs.YtjlbmelpoaffpaaDoor.SieveSteps
