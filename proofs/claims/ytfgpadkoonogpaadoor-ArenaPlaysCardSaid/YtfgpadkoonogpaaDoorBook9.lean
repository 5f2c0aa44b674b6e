/- Package besombook: the contract of markedInts. -/
import Derived.Test.YtfgpadkoonogpaaDoorBook8
namespace Go.Proofs.YtfgpadkoonogpaaDoor.Book
open Go.RowKit
set_option linter.unusedSimpArgs false
set_option linter.unusedVariables false

theorem same_yes (w : World) {B1 B2 : Nat} {A1 A2 : Option Addr} {n1 c1 n2 c2 : Nat} {xs : List Int} (h1 : RI w B1 A1 n1 c1 xs) (h2 : RI w B2 A2 n2 c2 xs) :
    Calls Tryd.prog 18 #[.slice A1 n1 c1, .slice A2 n2 c2] w fun e w' => e = .returned (.bool true) ∧ ∃ m, w' = w.drewN m :=
  (same_any w _ _ _ _ _ _ _ _ _ _ h1 h2).mono fun _ _ ⟨he, k, hk⟩ => ⟨he.trans (by simp), k, hk⟩
set_option maxRecDepth 100000 in
set_option maxHeartbeats 2000000 in
theorem marked_any (w : World) (S : Nat → Prop) (base B m : Nat) (gs : List KL) (a : Option Addr) (c n : Nat) (h : w.ownsRow B 27 1 (.slice a n c) gs.length (gs.map Prod.fst)) (hn : n = gs.length) (ho : Own w S base gs m) (hm : m ≤ 100000) (hmk : Marked gs) (hfew : n ≤ 250) :
    Calls Tryd.prog 67 #[.slice a n c] w fun e w' => e = .returned (.bool true) ∧ Below w.heap.size w w' := by
  have H := Lib.hid h
  have HO := Lib.hid ho
  have HM := Lib.hid hmk
  have HN := Lib.hid hn
  have hl : (n : Int) ≤ 250 := by omega
  clear h ho hmk hn
  go_enter Tryd.func67, Tryd.ntmps67
  go_wp2_with fail
  go_loopw [3] (fun i wr => ∃ k : Nat, k ≤ n ∧ i = .int .i64 k ∧ Below w.heap.size w wr) (fun i _ => n - (intOf i).toNat)
  case atStart => exact ⟨0, Nat.zero_le _, rfl, Below.refl _ _⟩
  case round =>
    obtain ⟨k, hk, rfl, hb⟩ := hrel
    have HB := Lib.hid hb
    clear hb
    by_cases hlt : k < n
    · have hkn : (k : Int) < (n : Int) := by omega
      have hk0 : (0 : Int) ≤ (k : Int) := by omega
      have hk1 : k ≤ 1000 := by omega
      have HO1 : Own wr.drew S base gs m := HO.out.keep (fun p hp q e => HB.out.block q (HO.out.lt hp e)) (fun _ h => h)
      have H1 : wr.drew.ownsRow B 27 1 (.slice a n c) gs.length (gs.map Prod.fst) := own_block H.out fun q e => HB.out.block q (H.out.lt q e).2
      obtain ⟨gr, A, cc, xs, rfl, hgr, hcr, hxr, hor, hx⟩ := row_at HO1 H1 HN.out (k := k) (by have := HN.out; omega)
      have hmx : xs = marks k 0 xs.length := HM.out k _ hxr
      obtain ⟨x, hx1⟩ : ∃ x, xs.length = x := ⟨_, rfl⟩
      rw [hx1] at hcr hxr hor hx hmx
      subst hmx
      have HX := Lib.hid hor
      have hcr' : wr.cell? ⟨gr, k, none⟩ = some (.slice A x cc) := hcr
      have hgr' : gr < wr.heap.size := hgr
      clear hx1 hxr hor HO1 H1 hcr hgr
      go_wp2_with fail
      go_region_law (first
        | (go_simp; go_at_call 95; refine (marks0_any k x _ hk1 (by omega)).mono ?_; rintro e w1 ⟨a1, c1, rfl, ho1, hb1⟩; rw [marks_length] at ho1; have HR1 := Lib.hid (show RI w1 w1.heap.size A x cc (marks k 0 x) from ⟨marks_length _ _ _, Reads.of_own (own_block HX.out fun q e => hb1.block q (HX.out.lt q e).2)⟩); have HR2 := Lib.hid (show RI w1 w1.heap.size a1 x c1 (marks k 0 x) from ⟨marks_length _ _ _, Reads.of_own ho1⟩); have HBB := Lib.hid (show Below w.heap.size w w1 from fresh_call HB.out (below_drew1 hb1)); have hc1 : w1.cell? ⟨gr, k, none⟩ = some (.slice A x cc) := (hb1.cell (p := ⟨gr, k, none⟩) hgr').trans hcr'; rw [marks_length]; clear ho1 hb1; dsimp only)
        | (go_simp; go_at_call 18; refine (same_yes _ HR1.out HR2.out).mono ?_; rintro e w2 ⟨rfl, d, rfl⟩; dsimp only))
      all_goals
        go_wp2_with fail
        go_roundw
        case rel => exact ⟨k + 1, by omega, by go_num, below_drewN HBB.out _⟩
        case measure => simp [intOf]; omega
    · obtain rfl : k = n := by omega
      have hkk : ¬ (k : Int) < (k : Int) := by omega
      go_wp2_with fail
      go_ret
      exact ⟨rfl, HB.out⟩
end Go.Proofs.YtfgpadkoonogpaaDoor.Book
