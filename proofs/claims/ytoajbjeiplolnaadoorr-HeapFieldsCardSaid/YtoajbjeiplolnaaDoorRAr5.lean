/- Package arena: the contracts of Grow and Take. -/
import Derived.Test.YtoajbjeiplolnaaDoorRAr4
namespace Go.Proofs.YtoajbjeiplolnaaDoorR.Ar
open Go.RowKit Pg
set_option linter.unusedSimpArgs false
set_option linter.unusedVariables false

theorem ArenaAt.grow {w : World} {b gp gw : Nat} {ps : List (Option PM)} {ws : List Int} (h : ArenaAt w b gp gw ps ws) {k : Nat} {p : PM} (hk : ps[k]? = some none) (hp : PageAt w p.b p.c p.n p.U p.M ∧ Cls.csl p.c = (p.n : Int))
    (hnew : ∀ (i : Nat) (q : PM), ps[i]? = some (some q) → q.b ≠ p.b) : ArenaAt (w.setCell ⟨gp, k, none⟩ (ptr (some p))) b gp gw (ps.set k (some p)) ws := by
  have hl := (List.getElem?_eq_some_iff.1 hk).1
  have hx : ∀ (i : Nat) (q : PM), (ps.set k (some p))[i]? = some (some q) → (i = k ∧ q = p) ∨ (i ≠ k ∧ ps[i]? = some (some q)) := by
    intro i q hi
    by_cases e : k = i
    · subst e
      rw [List.getElem?_set_self hl] at hi
      exact .inl ⟨rfl, (Option.some.inj (Option.some.inj hi)).symm⟩
    · rw [List.getElem?_set_ne e] at hi
      exact .inr ⟨fun e' => e e'.symm, hi⟩
  refine ⟨by rw [List.length_set]; exact h.blk.other (blk_ne h.blk h.rowp (by decide)) _, (h.rowp.set k _).of_eq (pgs_set ps k (some p)), h.roww.other (blk_ne h.roww h.rowp (by decide)) _, by rw [List.length_set]; exact h.hn, by rw [List.length_set]; exact h.hw, ?_, ?_⟩
  · intro i q hi
    have hq : PageAt w q.b q.c q.n q.U q.M ∧ Cls.csl q.c = (q.n : Int) := by
      rcases hx i q hi with ⟨rfl, rfl⟩ | ⟨hne, hi⟩
      · exact hp
      · exact h.page i q hi
    exact ⟨hq.1.keep (Below.heap_setCell w ⟨gp, k, none⟩ _ q.b (blk_ne hq.1.blk h.rowp (by decide))), hq.2⟩
  · intro i j q r hi hj e
    rcases hx i q hi with ⟨hik, rfl⟩ | ⟨hne, hi'⟩
    · rcases hx j r hj with ⟨hjk, rfl⟩ | ⟨hne', hj'⟩
      · rw [hik, hjk]
      · exact absurd e.symm (hnew j r hj')
    · rcases hx j r hj with ⟨hjk, rfl⟩ | ⟨hne', hj'⟩
      · exact absurd e (hnew i q hi')
      · exact h.inj i j q r hi' hj' e
theorem grow_bad (a : Option Addr) (c : Int) (w : World) (hc : Cls.csl c = 0) :
    Calls Tryd.prog 19 #[.pointer a, .int .i64 c] w fun e w' => e = .returned (.bool false) ∧ w = w' := by
  have HC := Lib.hid hc
  clear hc
  rcases a with _ | a
  all_goals
    go_enter Tryd.func19, Tryd.ntmps19
    go_wp2_with fail
    refine (new_no _ _ HC.out).mono ?_
    rintro e w1 ⟨rfl, rfl⟩
    dsimp only
    go_wp2_with fail
    go_ret
    exact ⟨rfl, rfl⟩
theorem grow_nil (c : Int) (w : World) :
    Calls Tryd.prog 19 #[.pointer none, .int .i64 c] w fun e w' => e = .returned (.bool false) ∧ Below w.heap.size w w' := by
  by_cases hc : Cls.csl c = 0
  · exact (grow_bad none c w hc).mono fun e w' h => ⟨h.1, h.2 ▸ Below.refl _ _⟩
  · have hb := csl_bd c
    obtain ⟨n, hn⟩ : ∃ n : Nat, Cls.csl c = n := ⟨(Cls.csl c).toNat, by omega⟩
    have hn0 : 0 < n := by omega
    have HN := Lib.hid hn
    clear hc hn
    go_enter Tryd.func19, Tryd.ntmps19
    go_wp2_with fail
    refine (new_yes _ n _ HN.out hn0).mono ?_
    rintro e w1 ⟨rfl, hp, hb⟩
    have HB := Lib.hid hb
    clear hp hb
    dsimp only
    go_wp2_with fail
    go_ret
    exact ⟨rfl, HB.out⟩
def Grew (b gp gw : Nat) (ps : List (Option PM)) (ws : List Int) (c : Int) (n : Nat) (w : World) (e : Ending) (w' : World) : Prop :=
  (e = .returned (.bool false) ∧ (∀ i, i < ps.length → ps[i]? ≠ some none) ∧ Below w.heap.size w w') ∨
  (e = .returned (.bool true) ∧ ∃ (k : Nat) (bp : Nat), ps[k]? = some none ∧ (∀ i, i < k → ps[i]? ≠ some none) ∧ w.heap.size ≤ bp ∧ ArenaAt w' b gp gw (ps.set k (some ⟨bp, c, n, 0, 0⟩)) ws ∧ Kept (fun i => i = gp) w w')
theorem grow_any (b gp gw : Nat) (ps : List (Option PM)) (ws : List Int) (c : Int) (n : Nat) (w : World) (h : ArenaAt w b gp gw ps ws) (hn : Cls.csl c = (n : Int)) (h0 : 0 < n) :
    Calls Tryd.prog 19 #[.pointer (some ⟨b, 0, none⟩), .int .i64 c] w (Grew b gp gw ps ws c n w) := by
  have HN := Lib.hid hn
  have H := Lib.hid h
  have hl := h.hn
  clear h hn
  go_enter Tryd.func19, Tryd.ntmps19
  go_wp2_with fail
  refine (new_yes _ n _ HN.out h0).mono ?_
  rintro e w1 ⟨rfl, hp, hb⟩
  have HB := Lib.hid hb
  have HP := Lib.hid hp
  have H1 := Lib.hid (H.out.call hb)
  obtain ⟨c0, c1, f0, f1⟩ := H1.out.blk.two
  obtain ⟨bp, hbp⟩ : ∃ bp, w.heap.size = bp := ⟨_, rfl⟩
  have HQ := Lib.hid (show ∀ (i : Nat) (q : PM), ps[i]? = some (some q) → q.b ≠ w.heap.size from fun i q hq => by have := H.out.lt (.inr (.inr (.inr ⟨i, q, hq, rfl⟩))); omega)
  rw [hbp] at HP HQ ⊢
  have HBP := Lib.hid hbp
  clear hp hb hbp
  dsimp only
  go_wp2_with fail
  go_loopw [24] (fun i wr => ∃ j : Nat, j ≤ ps.length ∧ i = .int .i64 j ∧ (∀ i, i < j → ps[i]? ≠ some none) ∧ wr = w1) (fun i _ => ps.length - (intOf i).toNat)
  case atStart => exact ⟨0, Nat.zero_le _, rfl, fun i hi => by omega, rfl⟩
  case round =>
    obtain ⟨j, hj, rfl, hb, rfl⟩ := hrel
    have HS := Lib.hid hb
    clear hb
    by_cases hlt : j < ps.length
    · obtain ⟨p, hp⟩ : ∃ p, ps[j]? = some p := ⟨ps[j], List.getElem?_eq_getElem hlt⟩
      have hc := (H1.out.rowp.cell j).trans (pgs_get hp)
      have hf := H1.out.rowp.free j
      have h3 : (j : Int) < (ps.length : Int) := by omega
      have HJ := Lib.hid hp
      clear hp
      cases p with
      | none =>
        unfold ptr at hc
        go_wp2_with fail
        go_ret
        refine Or.inr ⟨rfl, j, bp, HJ.out, HS.out, by have := HBP.out; omega, ?_, (Kept.of_below HB.out (fun i => i = gp)).set (p := ⟨gp, j, none⟩) (.inl rfl) _⟩
        exact ArenaAt.grow H1.out HJ.out (p := ⟨bp, c, n, 0, 0⟩) ⟨HP.out, HN.out⟩ HQ.out
      | some p =>
        unfold ptr at hc
        go_wp2_with fail
        go_roundw
        case rel => exact ⟨j + 1, by omega, rfl, fun i hi => by
          rcases Nat.lt_succ_iff_lt_or_eq.1 hi with hi | rfl
          · exact HS.out i hi
          · rw [HJ.out]; simp, trivial⟩
        case measure => simp [intOf]; omega
    · obtain rfl : j = ps.length := by omega
      go_wp2_with fail
      go_ret
      exact Or.inl ⟨rfl, HS.out, HB.out⟩
end Go.Proofs.YtoajbjeiplolnaaDoorR.Ar
