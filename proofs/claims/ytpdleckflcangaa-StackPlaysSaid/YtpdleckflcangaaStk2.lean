/- Package stack: the contracts of Copy and Clear; package besomlaw13's first call answers true. -/
import Derived.Test.YtpdleckflcangaaStk
import Derived.Test.YtpdleckflcangaaApp2
import Derived.Lib.SliceRun
namespace Go.Proofs.Ytpdleckflcangaa.Stk
open Go.RowKit
set_option linter.unusedSimpArgs false
set_option linter.unusedVariables false

/-- The first words, and zeros behind them. -/
def cp (ws : List Int) (n : Nat) : List Int := ws.take n ++ List.replicate (n - ws.length) 0
theorem cp_length (ws : List Int) (n : Nat) : (cp ws n).length = n := by simp [cp]; omega

theorem cp_cells (ws : List Int) (n : Nat) : ((cells (List.replicate n 0)).toList.take 0 ++ (ws.map (Value.int .i64)).take (Nat.min ws.length n) ++ (cells (List.replicate n 0)).toList.drop (0 + Nat.min ws.length n)).toArray = cells (cp ws n) := by
  have h1 : (ws.map (Value.int .i64)).take (Nat.min ws.length n) = (ws.take n).map (Value.int .i64) := by
    rw [← List.map_take]
    congr 1
    rcases Nat.le_total ws.length n with h | h
    · rw [show Nat.min ws.length n = ws.length from Nat.min_eq_left h, List.take_length, List.take_of_length_le h]
    · rw [show Nat.min ws.length n = n from Nat.min_eq_right h]
  have h2 : n - Nat.min ws.length n = n - ws.length := by
    rcases Nat.le_total ws.length n with h | h
    · rw [show Nat.min ws.length n = ws.length from Nat.min_eq_left h]
    · rw [show Nat.min ws.length n = n from Nat.min_eq_right h]; omega
  rw [h1]
  simp only [cells, cp, List.take_zero, List.nil_append, Nat.zero_add, List.map_append, List.map_replicate, List.drop_replicate, h2]

theorem copy_nil (serial words : Int) (w : World) :
    Calls Try.prog 34 #[.pointer none, .int .i64 serial, .int .i64 words] w fun e w' => e = .returned (.pointer none) ∧ w = w' := by
  go_enter Try.func34, Try.ntmps34
  go_wp2_with fail
  go_ret
  exact ⟨rfl, rfl⟩

theorem infoS : (Try.prog.info? 3).map (·.size) = some 1 := by kernel_rfl

set_option maxHeartbeats 400000 in
theorem copy_any (b g : Nat) (base : Int) (ws : List Int) (serial words : Int) (w : World) (h : StackAt w b g base ws) :
    Calls Try.prog 34 #[.pointer (some ⟨b, 0, none⟩), .int .i64 serial, .int .i64 words] w fun e w' => e = .returned (.pointer (some ⟨w.heap.size + 1, 0, none⟩)) ∧
      StackAt w' (w.heap.size + 1) w.heap.size (1073741824 + min (max serial 0) 100000 * 8192) (cp ws (min (max words 1) 4096).toNat) ∧ Below w.heap.size w w' := by
  have H := Lib.hid h
  obtain ⟨bs, hbs⟩ : ∃ bs, 1073741824 + min (max serial 0) 100000 * 8192 = bs := ⟨_, rfl⟩
  obtain ⟨n, hn⟩ : ∃ n : Nat, (min (max words 1) 4096).toNat = n := ⟨_, rfl⟩
  have hn0 : 0 < n := by omega
  have hn4 : n ≤ 4096 := by omega
  have hnew := new_any serial words w
  rw [hbs, hn] at hnew
  rw [hbs, hn]
  have HN := Lib.hid hnew
  clear h hbs hn hnew
  have hwl := H.out.2.2.2
  go_enter Try.func34, Try.ntmps34
  go_wp2_with fail
  refine HN.out.mono ?_
  rintro e w1 ⟨rfl, h1, hb1⟩
  have hs := H.out.below hb1
  have HS := Lib.hid hs
  have H1 := Lib.hid h1
  have HB := Lib.hid hb1
  obtain ⟨c0, c1, f0, f1⟩ := hs.1.two
  obtain ⟨d0, d1, e0, e1⟩ := h1.1.two
  rw [List.length_replicate] at d1
  have hrd : Reads w1 (g + 1) 1 (some ⟨g, 0, none⟩) ws.length ws.length (ws.map (.int .i64)) := hs.2.1.reads (by omega) (by simp [cells]) (by simp) (by unfold maxLen; omega)
  have HR := Lib.hid hrd
  clear h1 hs hb1 hrd
  dsimp only
  go_wp2_with fail
  go_region_law (refine step_cp _ rfl (.tmp 16) (.tmp 20) 46 46 rfl 3 Try.underlying46 infoS w.heap.size 0 n n rfl (cells (List.replicate n 0)) 3 (H1.out.2.1.drewN _) _ _ _ _ rfl (ws.map (.int .i64)) HR.out (ints_oneCell _ _) (Nat.min ws.length n) rfl (by rw [cells_size, List.length_replicate, Nat.zero_add]; exact Nat.min_le_right _ _) ?_; intro w4 hg4 hb4)
  all_goals
    have hsize := hb4.size
    have hst := (hb4.block (w.heap.size + 1) H1.out.1.lt (by simp)).trans H1.out.1
    have hbl := HB.out.size
    have hw : Below w.heap.size w w4 := HB.out.trans ⟨hb4.os, hb4.tape, hb4.output, hb4.size, fun k hk => hb4.block k (by show k < w1.heap.size; omega) (by simp; omega)⟩
    rw [cp_cells] at hg4
    have HG := Lib.hid hg4
    have HST := Lib.hid hst
    have HW := Lib.hid hw
    clear hg4 hst hw hb4 hsize
    go_wp2_with fail
    go_ret
    refine ⟨rfl, ⟨?_, HG.out, by rw [cp_length]; exact hn0, by rw [cp_length]; exact hn4⟩, HW.out⟩
    have := HST.out
    rw [List.length_replicate] at this
    rw [cp_length]
    exact this
end Go.Proofs.Ytpdleckflcangaa.Stk
