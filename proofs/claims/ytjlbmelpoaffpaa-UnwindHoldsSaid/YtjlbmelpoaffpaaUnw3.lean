/- Package unwind: the contract of Next. -/
import Derived.Test.YtjlbmelpoaffpaaUnw2
namespace Go.Proofs.Ytjlbmelpoaffpaa.Unw
open Go.RowKit
set_option linter.unusedSimpArgs false
set_option linter.unusedVariables false

set_option maxHeartbeats 2000000 in
theorem next_none (w : World) (v : Value) (al : List Al) (h : St w v [] al) :
    Calls Try.prog 14 #[v] w fun e w' => e = .returned (.int .i64 (next [] al)) ∧ Below w.heap.size w w' := by
  have hw1 := fun o => fresh_alloc (Below.refl w.heap.size w) o
  have HS := Lib.hid h
  have HW := Lib.hid hw1
  have B1 := Lib.hid (fun cs => Blk.new w cs 26)
  obtain ⟨A, c, A', c', rfl, _, _, _, _⟩ := h
  clear hw1
  go_enter Try.func14, Try.ntmps14
  go_wp2_with fail
  refine (top_any _ _ _ _ (HS.out.below (HW.out _))).mono ?_
  rintro e w1 ⟨rfl, hb⟩
  have hw := Lib.hid (below_call (HW.out _) (by simp) hb)
  have hB := ((B1.out _).call hb)
  have hB2 := hB.alloc (.cells #[.bool false, .bool false, .int .i64 0] 38)
  obtain ⟨k1, k2, k3, k4⟩ := hB2.two
  have hlt := hB2.lt
  clear hb hB
  simp only [topV]
  go_wp2_with fail
  have HW2 := Lib.hid (fresh_alloc hw.out (.cells #[.bool false, .bool false, .int .i64 0] 38))
  generalize w1.alloc (.cells #[.bool false, .bool false, .int .i64 0] 38) = w2 at *
  refine (last_any _ _ _ _ (HS.out.below HW2.out)).mono ?_
  rintro e w3 ⟨rfl, hb⟩
  have HW3 := Lib.hid (fresh_call HW2.out hb)
  clear hb
  rcases al with _ | ⟨a, r⟩
  · simp only [lastV]
    go_wp2_with fail
    go_ret
    exact ⟨rfl, fresh_alloc HW3.out _⟩
  · simp only [lastV]
    rcases a with ⟨code, ptr, run, ex, rc⟩
    cases ex
    all_goals
      go_wp2_with fail
      go_ret
      exact ⟨rfl, fresh_alloc HW3.out _⟩

set_option maxHeartbeats 2000000 in
theorem next_some (w : World) (v : Value) (m : Mk) (r : List Mk) (al : List Al) (h : St w v (m :: r) al) :
    Calls Try.prog 14 #[v] w fun e w' => e = .returned (.int .i64 (next (m :: r) al)) ∧ Below w.heap.size w w' := by
  have hw1 := fun o => fresh_alloc (Below.refl w.heap.size w) o
  have HS := Lib.hid h
  have HW := Lib.hid hw1
  have B1 := Lib.hid (fun cs => Blk.new w cs 26)
  obtain ⟨A, c, A', c', rfl, _, _, _, _⟩ := h
  clear hw1
  have hl : (m :: r).length = r.length + 1 := rfl
  have HT := Lib.hid (fun w v h => top_any w v (m :: r) al h)
  have HU := Lib.hid (fun w v h => unwinds_any w v (m :: r) al h)
  rcases m with ⟨lv, df, th⟩
  have hn : next (⟨lv, df, th⟩ :: r) al = if !unw al && !lv then 0 else if 0 < th then 1 else 2 := rfl
  rw [hn]
  clear hn
  generalize unw al = u at *
  go_enter Try.func14, Try.ntmps14
  go_wp2_with fail
  refine (HT.out _ _ (HS.out.below (HW.out _))).mono ?_
  rintro e w1 ⟨rfl, hb⟩
  have hw := Lib.hid (below_call (HW.out _) (by simp) hb)
  have hB := ((B1.out _).call hb)
  have hB2 := hB.alloc (.cells #[.bool lv, .bool df, .int .i64 th] 38)
  have hM := Blk.new w1 #[.bool lv, .bool df, .int .i64 th] 38
  obtain ⟨k1, k2, k3, k4⟩ := hB2.two
  have hlt := hB2.lt
  have hM1 := Lib.hid hM
  clear hb hB
  simp only [topV]
  go_wp2_with fail
  have HW2 := Lib.hid (fresh_alloc hw.out (.cells #[.bool lv, .bool df, .int .i64 th] 38))
  generalize w1.alloc (.cells #[.bool lv, .bool df, .int .i64 th] 38) = w2 at *
  refine (HU.out _ _ (HS.out.below HW2.out)).mono ?_
  rintro e w3 ⟨rfl, hb⟩
  have HW3 := Lib.hid (fresh_call HW2.out hb)
  obtain ⟨m1, m2, m3, m4, m5, m6⟩ := (hM1.out.call hb).three
  clear hb
  dsimp only
  by_cases hth : 0 < th
  all_goals
    cases u <;> cases lv
    all_goals
      go_wp2_with fail
      go_ret
      simp [hth]
      exact HW3.out

theorem next_any (w : World) (v : Value) (ms : List Mk) (al : List Al) (h : St w v ms al) :
    Calls Try.prog 14 #[v] w fun e w' => e = .returned (.int .i64 (next ms al)) ∧ Below w.heap.size w w' := by
  rcases ms with _ | ⟨m, r⟩
  · exact next_none w v al h
  · exact next_some w v m r al h
end Go.Proofs.Ytjlbmelpoaffpaa.Unw
