/- The walk of besomlaw1.SieveTwice: it returns true, and writes nothing that was there. -/
import Derived.Test.YtjlbmelpoaffpaaDoorSvA
namespace Go.Proofs.YtjlbmelpoaffpaaDoor.SieveTwice
open Go.RowKit Sv Wd Bit
set_option linter.unusedSimpArgs false
set_option linter.unusedVariables false

set_option maxRecDepth 100000 in
theorem early (x : Int) (A : Option Addr) (m c : Nat) (w : World) (hT : Tab w) (h : x < 1 ∨ 300 < x ∨ 60 < m) :
    Calls Tryd.prog 5 #[.int .i64 x, .slice A m c] w fun e w' => e = .returned (.bool true) ∧ Below w.heap.size w w' := by
  have HT := Lib.hid hT
  clear hT
  by_cases h1 : x < 1
  · clear h
    go_enter Tryd.func5, Tryd.ntmps5
    go_wp2_with fail
    refine (alive _ HT.out).mono ?_
    rintro e w2 ⟨rfl, hb2⟩
    dsimp only
    go_wp2_with fail
    go_ret
    exact ⟨rfl, hb2⟩
  by_cases h2 : 300 < x
  · clear h
    go_enter Tryd.func5, Tryd.ntmps5
    go_wp2_with fail
    refine (alive _ HT.out).mono ?_
    rintro e w2 ⟨rfl, hb2⟩
    dsimp only
    go_wp2_with fail
    go_ret
    exact ⟨rfl, hb2⟩
  · have h3 : (60 : Int) < (m : Int) := by rcases h with h | h | h <;> first | omega | exact absurd h (by assumption)
    clear h
    go_enter Tryd.func5, Tryd.ntmps5
    go_wp2_with fail
    refine (alive _ HT.out).mono ?_
    rintro e w2 ⟨rfl, hb2⟩
    dsimp only
    go_wp2_with fail
    go_ret
    exact ⟨rfl, hb2⟩
/-- A run that turns nothing: all that is on the list is as it should be. -/
theorem run_same {n : Nat} {on : Bool} {W : List Nat} {l : List Int} (h : ∀ x ∈ l, 0 ≤ x → x < (n : Int) → has W x.toNat = on) : runL n on W l = (W, 0) := by
  unfold runL
  suffices hs : ∀ (l : List Int), (∀ x ∈ l, 0 ≤ x → x < (n : Int) → has W x.toNat = on) → l.foldl (step1 n on) (W, 0) = (W, 0) from hs l h
  intro l
  induction l with
  | nil => intro _; rfl
  | cons x l ih =>
    intro h
    rw [List.foldl_cons]
    have e : step1 n on (W, 0) x = (W, 0) := by
      unfold step1
      rw [if_neg]
      rintro ⟨h1, h2, h3⟩
      have := h x List.mem_cons_self h1 h2
      rw [this] at h3
      cases on <;> cases h3
    rw [e]
    exact ih fun y hy => h y (List.mem_cons_of_mem _ hy)
theorem cnt_of {n : Nat} {W W' : List Nat} (h : Ok n W) (h' : Ok n W') (hh : ∀ j, j < n → has W j = has W' j) : cnt W = cnt W' := by
  rw [cnt_sl h, cnt_sl h']
  rw [sl_congr hh]
theorem cnt_none {n : Nat} {W : List Nat} (h : Ok n W) (hh : ∀ j, j < n → has W j = false) : cnt W = 0 := by
  rw [cnt_sl h, sl_nil hh]
  rfl
/-- All that the law asks, of the words alone. -/
theorem facts {n : Nat} {W : List Nat} (hW : Ok n W) (hE : ∀ j, has W j = false) (l : List Int) :
    let W1 := (runL n true W l).1
    let a := (runL n true W l).2
    let W2 := (runL n false W1 l).1
    Ok n W1 ∧ runL n true W1 l = (W1, 0) ∧ cnt W1 = a ∧ (runL n false W1 l).2 = a ∧ cnt W2 = 0 ∧ runL n false W2 l = (W2, 0) ∧ (runL n true W2 l).2 = a ∧ (sl n (has (runL n true W2 l).1)).length = a ∧ a ≤ l.length := by
  intro W1 a W2
  obtain ⟨o1, i1, c1, l1⟩ := runL_ok hW true l
  obtain ⟨o2, i2, c2, l2⟩ := runL_ok (W := W1) o1 false l
  obtain ⟨o3, i3, c3, l3⟩ := runL_ok (W := W2) o2 true l
  have z0 : cnt W = 0 := cnt_none hW fun j _ => hE j
  simp only [if_true, Bool.false_eq_true, if_false] at c1 c2 c3
  have h2 : ∀ j, j < n → has W2 j = false := by
    intro j hj
    have e2 : has W2 j = _ := i2 j
    rw [e2]
    by_cases hm : (j : Int) ∈ l
    · rw [if_pos ⟨hj, hm⟩]
    · rw [if_neg (fun h => hm h.2)]
      have e1 : has W1 j = _ := i1 j
      rw [e1, if_neg (fun h => hm h.2), hE j]
  have z2 : cnt W2 = 0 := cnt_none o2 h2
  have h3 : ∀ j, j < n → has (runL n true W2 l).1 j = has W1 j := by
    intro j hj
    rw [i3 j]
    have e1 : has W1 j = _ := i1 j
    rw [e1]
    by_cases hm : (j : Int) ∈ l
    · rw [if_pos ⟨hj, hm⟩, if_pos ⟨hj, hm⟩]
    · rw [if_neg (fun h => hm h.2), if_neg (fun h => hm h.2), hE j, h2 j hj]
  have z1 : cnt W1 = a := by show cnt (runL n true W l).1 = (runL n true W l).2; omega
  have z3 : cnt (runL n true W2 l).1 = cnt W1 := cnt_of o3 o1 h3
  refine ⟨o1, run_same fun x hx h0 h1 => ?_, z1, ?_, z2, run_same fun x hx h0 h1 => h2 _ (by omega), ?_, ?_, l1⟩
  · have e1 : has W1 x.toNat = _ := i1 x.toNat
    rw [e1, if_pos ⟨by omega, by rw [show (x.toNat : Int) = x by omega]; exact hx⟩]
  · have : cnt (runL n false W1 l).1 + (runL n false W1 l).2 = cnt W1 := c2
    have : cnt (runL n false W1 l).1 = 0 := z2
    omega
  · omega
  · rw [← cnt_sl o3]; omega
theorem facts2 {n : Nat} {W W1 W2 W3 : List Nat} {a a2 a3 : Nat} (hW : Ok n W) (hE : ∀ j, has W j = false) {l : List Int} (h1 : runL n true W l = (W1, a)) (h2 : runL n false W1 l = (W2, a2)) (h3 : runL n true W2 l = (W3, a3)) :
    runL n true W1 l = (W1, 0) ∧ cnt W1 = a ∧ a2 = a ∧ cnt W2 = 0 ∧ runL n false W2 l = (W2, 0) ∧ a3 = a ∧ (sl n (has W3)).length = a ∧ a ≤ l.length := by
  have h := facts hW hE l
  simp only [h1, h2, h3] at h
  exact h.2
set_option maxRecDepth 100000 in
set_option maxHeartbeats 4000000 in
theorem core (n : Nat) (A : Option Addr) (m c : Nat) (l : List Int) (w : World) (hT : Tab w) (hl : l.length = m) (wl : ∀ x ∈ l, (Lit.int .i64 x).wf = true) (hR : Reads w w.heap.size 1 A m c (l.map (.int .i64))) (hn1 : 1 ≤ n) (hn : n ≤ 300) (hm : m ≤ 60) :
    Calls Tryd.prog 5 #[.int .i64 n, .slice A m c] w fun e w' => e = .returned (.bool true) ∧ Below w.heap.size w w' := by
  have HT := Lib.hid hT
  have hw0 := hT.1
  have HR := Lib.hid hR
  have WL := Lib.hid wl
  have HA := Lib.hid (show ∀ g, w.heap.size ≤ g → 0 < m → ∀ a, A = some a → a.block ≠ g from fun g hg hm a e => by
    obtain ⟨b, off, e2, hb, _⟩ := hR.2.2.2 hm
    rw [e] at e2; injection e2 with e2; subst e2
    intro e3
    have e3 : b = g := e3
    omega)
  have n1 : (1 : Int) ≤ (n : Int) := by omega
  have n2 : (n : Int) ≤ 300 := by omega
  have m1 : (m : Int) ≤ 60 := by omega
  clear hT hR wl
  go_enter Tryd.func5, Tryd.ntmps5
  go_wp2_with fail
  refine (alive _ HT.out).mono ?_
  rintro e w1 ⟨rfl, hb1⟩
  have HB1 := Lib.hid hb1
  clear hb1
  dsimp only
  go_wp2_with fail
  refine (new_any (n : Int) _).mono ?_
  rintro e w2 hmade
  obtain ⟨b, g, rfl, hs⟩ := SW.made (HT.out.call HB1.out) hmade
  rw [show (min (max (n : Int) 0) 4096).toNat = n by omega] at hs
  have H2 := Lib.hid (show SW w w2 b g n (List.replicate ((n + 63) / 64) 0) from ⟨hs.sv, ⟨Nat.le_trans HB1.out.size hs.new.1, Nat.le_trans HB1.out.size hs.new.2⟩, below_call HB1.out HB1.out.size hs.bel, hs.tab⟩)
  obtain ⟨W1, a, h1⟩ : ∃ W1 a, runL n true (List.replicate ((n + 63) / 64) 0) l = (W1, a) := ⟨_, _, rfl⟩
  obtain ⟨W2, a2, h2⟩ : ∃ W2 a2, runL n false W1 l = (W2, a2) := ⟨_, _, rfl⟩
  obtain ⟨W3, a3, h3⟩ : ∃ W3 a3, runL n true W2 l = (W3, a3) := ⟨_, _, rfl⟩
  obtain ⟨k1, k2, rfl, k4, k5, rfl, k7, k8⟩ := facts2 (zero_ok (show n ≤ 4096 by omega)) (zero_has ((n + 63) / 64)) h1 h2 h3
  generalize List.replicate ((n + 63) / 64) 0 = W at *
  have R1 := Lib.hid h1
  have R2 := Lib.hid h2
  have R3 := Lib.hid h3
  have K1 := Lib.hid k1
  have K2 := Lib.hid k2
  have K4 := Lib.hid k4
  have K5 := Lib.hid k5
  have K7 := Lib.hid k7
  have ha : a3 ≤ 60 := by omega
  have HM : m ≤ 1000000 := by omega
  clear hs hmade HB1 h1 h2 h3 k1 k2 k4 k5 k7 k8
  dsimp only
  go_wp2_with fail
  refine (put_any b g n W A m c w.heap.size l _ H2.out.sv (HR.out.below H2.out.bel) H2.out.bel.size (HA.out g H2.out.new.2) WL.out HM).mono ?_
  rw [R1.out]
  rintro e w3 ⟨rfl, hs, hk⟩
  have H3 := Lib.hid (H2.out.step hw0 hs hk)
  clear hs hk H2
  dsimp only
  go_wp2_with fail
  refine (put_any b g n W1 A m c w.heap.size l _ H3.out.sv (HR.out.below H3.out.bel) H3.out.bel.size (HA.out g H3.out.new.2) WL.out HM).mono ?_
  rw [K1.out]
  rintro e w4 ⟨rfl, hs, hk⟩
  have H4 := Lib.hid (H3.out.step hw0 hs hk)
  clear hs hk H3
  dsimp only
  go_wp2_with fail
  refine (count_any b g n W1 _ H4.out.sv).mono ?_
  rw [K2.out]
  rintro e w5 ⟨rfl, d5, rfl⟩
  have H5 := Lib.hid (H4.out.drewN d5)
  generalize w4.drewN d5 = w5 at *
  clear H4
  dsimp only
  go_wp2_with fail
  refine (cut_any b g n W1 A m c w.heap.size l _ H5.out.sv (HR.out.below H5.out.bel) H5.out.bel.size (HA.out g H5.out.new.2) WL.out HM).mono ?_
  rw [R2.out]
  rintro e w6 ⟨rfl, hs, hk⟩
  have H6 := Lib.hid (H5.out.step hw0 hs hk)
  clear hs hk H5
  dsimp only
  go_wp2_with fail
  refine (count_any b g n W2 _ H6.out.sv).mono ?_
  rw [K4.out]
  rintro e w7 ⟨rfl, d7, rfl⟩
  have H7 := Lib.hid (H6.out.drewN d7)
  generalize w6.drewN d7 = w7 at *
  clear H6
  dsimp only
  go_wp2_with fail
  refine (cut_any b g n W2 A m c w.heap.size l _ H7.out.sv (HR.out.below H7.out.bel) H7.out.bel.size (HA.out g H7.out.new.2) WL.out HM).mono ?_
  rw [K5.out]
  rintro e w8 ⟨rfl, hs, hk⟩
  have H8 := Lib.hid (H7.out.step hw0 hs hk)
  clear hs hk H7
  dsimp only
  go_wp2_with fail
  refine (put_any b g n W2 A m c w.heap.size l _ H8.out.sv (HR.out.below H8.out.bel) H8.out.bel.size (HA.out g H8.out.new.2) WL.out HM).mono ?_
  rw [R3.out]
  rintro e w9 ⟨rfl, hs, hk⟩
  have H9 := Lib.hid (H8.out.step hw0 hs hk)
  clear hs hk H8
  dsimp only
  go_wp2_with fail
  refine (all_any b g n W3 _ H9.out.sv H9.out.tab).mono ?_
  rintro e w10 ⟨aa, cc, rfl, ho, hb⟩
  have H10 := Lib.hid (H9.out.call hb)
  have hk7 := K7.out
  rw [hk7]
  clear ho hb
  dsimp only
  go_wp2_with fail
  go_ret
  exact ⟨by go_num, H10.out.bel⟩
theorem walk (x : Int) (A : Option Addr) (m c : Nat) (l : List Int) (w : World) (hT : Tab w) (_w0 : (Lit.int .i64 x).wf = true) (hl : l.length = m) (wl : ∀ x ∈ l, (Lit.int .i64 x).wf = true) (hR : Reads w w.heap.size 1 A m c (l.map (.int .i64))) :
    Calls Tryd.prog 5 #[.int .i64 x, .slice A m c] w fun e w' => e = .returned (.bool true) ∧ Below w.heap.size w w' := by
  by_cases h : x < 1 ∨ 300 < x ∨ 60 < m
  · exact early x A m c w hT h
  · obtain ⟨n, rfl⟩ : ∃ n : Nat, x = n := ⟨x.toNat, by omega⟩
    exact core n A m c l w hT hl wl hR (by omega) (by omega) (by omega)
end Go.Proofs.YtjlbmelpoaffpaaDoor.SieveTwice
