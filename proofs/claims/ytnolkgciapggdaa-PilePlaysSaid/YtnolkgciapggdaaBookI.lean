/- Package besombook: the contracts of LentInts and StaysInts. -/
import Derived.Test.YtnolkgciapggdaaBookS
namespace Go.Proofs.Ytnolkgciapggdaa.Book
open Go.RowKit
set_option linter.unusedSimpArgs false
set_option linter.unusedVariables false

/-- A list with room behind it, in which a mark stands. -/
def Lent (l : List Int) (w : World) (e : Ending) (w' : World) : Prop :=
  ∃ g c, e = .returned (.slice (some ⟨g, 0, none⟩) l.length c) ∧ w'.ownsRow w.heap.size 3 1 (.slice (some ⟨g, 0, none⟩) (l.length + 1) c) (l.length + 1) (l.map (.int .i64) ++ [.int .i64 (-77)]) ∧ Below w.heap.size w w'

set_option maxHeartbeats 400000 in
theorem lent_any (w : World) (B : Nat) (A : Option Addr) (n c : Nat) (xs : List Int) (h : RI w B A n c xs) (hn : n ≤ 1000000) :
    Calls Try.prog 34 #[.slice A n c] w (Lent xs w) := by
  obtain ⟨i0, hi0, hz0, hz1, hz2⟩ := info_parts infoI
  have hx := h.1
  have HA := Lib.hid h
  have HI := Lib.hid (⟨hi0, hz0, hz1, hz2⟩ : Try.prog.info? 3 = some i0 ∧ i0.zero = some (.int .i64 0) ∧ i0.size = 1 ∧ i0.bytes = 8)
  clear h hi0 hz0 hz1 hz2
  subst hx
  have hm : xs.length ≤ 9223372036854775807 := by omega
  go_enter Try.func34, Try.ntmps34
  go_wp2_with fail
  refine (copy_any _ _ _ _ _ _ HA.out hn).mono ?_
  rintro e w1 ⟨a1, c1, rfl, ho1, hb1⟩
  have HO := Lib.hid ho1
  clear ho1
  have hB := hb1.size
  dsimp only
  go_wp2_with (first
    | (at_builtin; go_loud (refine wpList_app _ rfl _ _ 23 rfl w.heap.size 3 i0 (.int .i64 0) 1 8 Try.underlying23 HI.out.1 HI.out.2.1 HI.out.2.2.1 HI.out.2.2.2 rfl (by decide) _ _ _ rfl (HO.out.alloc _) (w1.heap.size + 1) _ 1 1 [.int .i64 (-77)] rfl (Blk.reads (Blk.new w1 _ _) (by simp) rfl rfl (by decide)) ?c1 ?c2 ?c3 ?c4 ?_))
    | fail)
  case c1 => intro u hu; simp at hu; subst hu; rfl
  case c2 => unfold maxLen; omega
  case c3 => omega
  case c4 => simp; omega
  intro a' c' w2 ho2 hg2 hat2
  have hw : Below w.heap.size w w2 := (fresh_alloc hb1 _).grown hg2 (by simp; omega) (fun k hk => (HO.out.lt k hk).1)
  obtain ⟨g, rfl, hcc⟩ : ∃ g, a' = some ⟨g, 0, none⟩ ∧ xs.length + 1 ≤ c' := by
    rcases ho2.2 with ⟨_, h⟩ | ⟨g, cap, _, h, _, _, h2, _⟩
    · omega
    · injection h with h3 h4 h5; subst h5; exact ⟨g, h3, h2⟩
  have hc0 : (0 : Int) ≤ (xs.length : Int) := by omega
  have hc1 : (xs.length : Int) ≤ (c' : Int) := by omega
  have HO2 := Lib.hid ho2
  have HW := Lib.hid hw
  clear ho2 hg2 hat2 hw hb1
  go_wp2_with fail
  go_ret
  exact ⟨g, c', rfl, HO2.out, HW.out⟩

set_option maxHeartbeats 400000 in
theorem stays_any (w : World) (b off n c B2 : Nat) (A2 : Option Addr) (n2 c2 : Nat) (xs ys : List Int) (h1 : RI w b (some ⟨b, off, none⟩) n c xs ∨ RI w (b + 1) (some ⟨b, off, none⟩) n c xs) (h2 : RI w B2 A2 n2 c2 ys) (hc : n + 1 ≤ c) (hcm : c ≤ maxLen)
    (hm : w.cell? ⟨b, off + n, none⟩ = some (.int .i64 (-77))) :
    Calls Try.prog 38 #[.slice (some ⟨b, off, none⟩) n c, .slice A2 n2 c2] w fun e w' => e = .returned (.bool (decide (xs = ys))) ∧ ∃ k, w' = w.drewN k := by
  have hs := h1.elim (fun h => same_any w _ _ _ _ _ _ _ _ _ _ h h2) (fun h => same_any w _ _ _ _ _ _ _ _ _ _ h h2)
  have HS := Lib.hid hs
  have hn : n ≤ 9223372036854775806 := by unfold maxLen at hcm; omega
  have hc0 : (0 : Int) ≤ (n : Int) := by omega
  have hc1 : (n : Int) + 1 ≤ (c : Int) := by omega
  clear h1 h2 hs
  by_cases he : xs = ys
  · have hd : decide (xs = ys) = true := by simpa using he
    have HD := Lib.hid hd
    clear he hd
    go_enter Try.func38, Try.ntmps38
    go_wp2_with fail
    refine HS.out.mono ?_
    rw [HD.out]
    rintro e w' ⟨rfl, k, rfl⟩
    dsimp only
    go_wp2_with fail
    go_ret
    exact ⟨ret_bool HD.out.symm, k, rfl⟩
  · have hd : decide (xs = ys) = false := by simpa using he
    have HD := Lib.hid hd
    clear he hd
    go_enter Try.func38, Try.ntmps38
    go_wp2_with fail
    refine HS.out.mono ?_
    rw [HD.out]
    rintro e w' ⟨rfl, k, rfl⟩
    dsimp only
    go_wp2_with fail
    go_ret
    exact ⟨ret_bool HD.out.symm, k, rfl⟩
end Go.Proofs.Ytnolkgciapggdaa.Book
