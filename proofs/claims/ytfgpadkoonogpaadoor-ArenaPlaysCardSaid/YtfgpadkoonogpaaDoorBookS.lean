/- Package besombook: the contracts of the helpers on lists of ints. -/
import Derived.Test.YtfgpadkoonogpaaDoorProg
import Derived.Test.YtfgpadkoonogpaaDoorGn
namespace Go.Proofs.YtfgpadkoonogpaaDoor.Book
open Go.RowKit
set_option linter.unusedSimpArgs false
set_option linter.unusedVariables false

theorem infoI : (Tryd.prog.info? 3).map (fun i => (i.zero, i.size, i.bytes)) = some (some (.int .i64 0), 1, 8) := by kernel_rfl

/-- The slice reads as these numbers; its row lies below block B. -/
abbrev RI (w : World) (B : Nat) (A : Option Addr) (n c : Nat) (xs : List Int) : Prop := xs.length = n ∧ Reads w B 1 A n c (xs.map (.int .i64))
theorem RI.at_ {w : World} {B : Nat} {A : Option Addr} {n c : Nat} {xs : List Int} (h : RI w B A n c xs) {j : Nat} {z : Int} (hz : xs[j]? = some z) : ∃ b off, A = some ⟨b, off, none⟩ ∧ b < B ∧ w.cell? ⟨b, off + j, none⟩ = some (.int .i64 z) :=
  h.2.at_ (by rw [List.getElem?_map, hz]; rfl)
theorem ones (xs : List Int) : ∀ u ∈ xs.map (Value.int .i64), u.oneCell' = true := ints_oneCell .i64 xs

set_option maxHeartbeats 400000 in
theorem same_any (w : World) (B1 B2 : Nat) (A1 A2 : Option Addr) (n1 c1 n2 c2 : Nat) (xs ys : List Int) (h1 : RI w B1 A1 n1 c1 xs) (h2 : RI w B2 A2 n2 c2 ys) :
    Calls Tryd.prog 18 #[.slice A1 n1 c1, .slice A2 n2 c2] w fun e w' => e = .returned (.bool (decide (xs = ys))) ∧ ∃ k, w' = w.drewN k := by
  have hm1 : n1 ≤ 9223372036854775807 := by have := h1.2.1; have := h1.2.2.1; unfold maxLen at this; omega
  have hm2 : n2 ≤ 9223372036854775807 := by have := h2.2.1; have := h2.2.2.1; unfold maxLen at this; omega
  have HA := Lib.hid h1
  have HB := Lib.hid h2
  by_cases hn : n1 = n2
  · subst hn
    have hl := h1.1.trans h2.1.symm
    have HL := Lib.hid hl
    clear h1 h2 hl
    go_enter Tryd.func18, Tryd.ntmps18
    go_wp2_with fail
    go_loopw [5] (fun i wr => ∃ k d : Nat, k ≤ n1 ∧ i = .int .i64 k ∧ xs.take k = ys.take k ∧ wr = w.drewN d) (fun i _ => n1 - (intOf i).toNat)
    case atStart => exact ⟨0, 0, Nat.zero_le _, rfl, by simp, rfl⟩
    case round =>
      obtain ⟨k, d, hk, rfl, ht, rfl⟩ := hrel
      have HT := Lib.hid ht
      clear ht
      by_cases hlt : k < n1
      · have hx : k < xs.length := by have := HA.out.1; omega
        have hy : k < ys.length := by have := HB.out.1; omega
        have hxk : xs[k]? = some xs[k] := List.getElem?_eq_getElem hx
        have hyk : ys[k]? = some ys[k] := List.getElem?_eq_getElem hy
        obtain ⟨b1, o1, rfl, hb1, hc1⟩ := HA.out.at_ hxk
        obtain ⟨b2, o2, rfl, hb2, hc2⟩ := HB.out.at_ hyk
        have HX := Lib.hid hxk
        have HY := Lib.hid hyk
        clear hxk hyk
        have hk0 : (0 : Int) ≤ (k : Int) := by omega
        have hkn : (k : Int) < (n1 : Int) := by omega
        by_cases he : xs[k] = ys[k]
        · have HE := Lib.hid he
          rw [← he] at hc2
          clear he
          go_wp2_with fail
          go_quiet (fail)
          go_wp2_with fail
          refine ⟨⟨k + 1, _, by omega, by go_num, ?_, rfl⟩, by simp [intOf]; omega⟩
          rw [List.take_succ_eq_append_getElem hx, List.take_succ_eq_append_getElem hy, HT.out, HE.out]
        · have hne : (xs[k] == ys[k]) = false := by simpa using he
          have HE := Lib.hid he
          clear he
          go_wp2_with fail
          go_quiet (fail)
          go_wp2_with fail
          go_ret
          refine ⟨ret_bool ?_, _, World.drewN_drewN _ _ _⟩
          symm
          simp only [decide_eq_false_iff_not]
          intro e
          subst e
          exact HE.out rfl
      · have hkk : k = n1 := by omega
        subst hkk
        go_wp2_with fail
        go_ret
        refine ⟨ret_bool ?_, d, rfl⟩
        symm
        simp only [decide_eq_true_eq]
        have := HT.out
        rwa [List.take_of_length_le (by have := HA.out.1; omega), List.take_of_length_le (by have := HB.out.1; omega)] at this
  · have hne : ((n1 : Int) != (n2 : Int)) = true := by simp; omega
    clear h1 h2
    go_enter Tryd.func18, Tryd.ntmps18
    go_wp2_with fail
    go_ret
    refine ⟨ret_bool ?_, 0, rfl⟩
    symm
    simp only [decide_eq_false_iff_not]
    intro e
    subst e
    exact hn (HA.out.1.symm.trans HB.out.1)

/-- The call gives a copy of the numbers in memory of its own. -/
def Copies (l : List Int) (w : World) (e : Ending) (w' : World) : Prop :=
  ∃ a c, e = .returned (.slice a l.length c) ∧ w'.ownsRow w.heap.size 3 1 (.slice a l.length c) l.length (l.map (.int .i64)) ∧ Below w.heap.size w w'

set_option maxHeartbeats 400000 in
theorem copy_any (w : World) (B : Nat) (A : Option Addr) (n c : Nat) (xs : List Int) (h : RI w B A n c xs) (hn : n ≤ 1000000) :
    Calls Tryd.prog 51 #[.slice A n c] w (Copies xs w) := by
  obtain ⟨i0, hi0, hz0, hz1, hz2⟩ := info_parts infoI
  have hx := h.1
  have HA := Lib.hid h
  have HI := Lib.hid (⟨hi0, hz0, hz1, hz2⟩ : Tryd.prog.info? 3 = some i0 ∧ i0.zero = some (.int .i64 0) ∧ i0.size = 1 ∧ i0.bytes = 8)
  clear h hi0 hz0 hz1 hz2
  subst hx
  go_enter Tryd.func51, Tryd.ntmps51
  go_wp2_with (first
    | (at_builtin; go_loud (refine wpList_app _ rfl _ _ 27 rfl w.heap.size 3 i0 (.int .i64 0) 1 8 Tryd.underlying27 HI.out.1 HI.out.2.1 HI.out.2.2.1 HI.out.2.2.2 rfl (by decide) _ 0 [] rfl (World.ownsRow_nil _ _ _ _) B A xs.length c (xs.map (.int .i64)) rfl HA.out.2 (ones xs) ?c2 ?c3 (Nat.le_refl _) ?_))
    | fail)
  case c2 => unfold maxLen; omega
  case c3 => omega
  intro a' c' w2 ho2 hg2 hat2
  have HO := Lib.hid ho2
  have HW := Lib.hid (show Below w.heap.size w w2 from (Below.refl _ _).grown hg2 (Nat.le_refl _) (fun k e => by simp [Value.ownBlock] at e))
  clear ho2 hg2 hat2
  go_wp2_with fail
  go_ret
  exact ⟨a', c', rfl, HO.out, HW.out⟩
end Go.Proofs.YtfgpadkoonogpaaDoor.Book
