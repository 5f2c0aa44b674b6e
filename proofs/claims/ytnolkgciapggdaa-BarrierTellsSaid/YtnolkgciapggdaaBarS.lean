/- Package barrier: the contracts of Store, Globals and Birth. -/
import Derived.Test.YtnolkgciapggdaaBar
namespace Go.Proofs.Ytnolkgciapggdaa.Bar
open Go.RowKit
set_option linter.unusedSimpArgs false
set_option linter.unusedVariables false

/-- The call gives the list l, in memory of its own; what was there is as it was. -/
def Gives (l : List Int) (w : World) (e : Ending) (w' : World) : Prop :=
  ∃ a c, e = .returned (.slice a l.length c) ∧ w'.ownsRow w.heap.size 3 1 (.slice a l.length c) l.length (l.map (.int .i64)) ∧ Below w.heap.size w w'

/-- What a write shades. -/
def store (phase : Int) (black : Bool) (old now : Int) : List Int := if phase = 1 then (if black then padd [] old else padd (padd [] old) now) else []

theorem store_idle (p o n : Int) (bl : Bool) (w : World) (h : p ≠ 1) :
    Calls Try.prog 16 #[.int .i64 p, .bool bl, .int .i64 o, .int .i64 n] w (Gives [] w) := by
  have hp : (p == 1) = false := by simpa using h
  go_enter Try.func16, Try.ntmps16
  go_wp2
  go_ret
  exact ⟨none, 0, rfl, World.ownsRow_nil _ _ _ _, Below.refl _ _⟩

theorem namesAt_new (w : World) : NamesAt ((w.alloc (.map #[] 0)).alloc (.cells #[.map (some w.heap.size), .slice none 0 0] 79)) w.heap.size (w.heap.size + 1) w.heap.size [] := by
  refine ⟨.slice none 0 0, ?_, ?_, World.ownsRow_nil _ _ _ _, by omega, Nat.le_refl _⟩
  · have := Blk.new (w.alloc (.map #[] 0)) #[.map (some w.heap.size), .slice none 0 0] 79
    rwa [World.size_alloc] at this
  · have h := IMap.made w
    have e : (fun x : Int => if x ∈ ([] : List Int) then (1 : Int) else 0) = fun _ => 0 := by funext x; simp
    rw [e]
    exact h.block (Below.heap_alloc (w.alloc (.map #[] 0)) _ w.heap.size (by simp))

/-- What the answer is read off: the second field. -/
theorem names_read {w : World} {B b mb : Nat} {l : List Int} (h : NamesAt w B b mb l) : ∃ a c, w.cell? ⟨b, 1, none⟩ = some (.slice a l.length c) ∧ w.ownsRow B 3 1 (.slice a l.length c) l.length (l.map (.int .i64)) := by
  obtain ⟨v, hb, _, ho, _, _⟩ := h
  obtain ⟨a, c, rfl⟩ := slice_of ho
  exact ⟨a, c, hb.cell 1, ho⟩

set_option maxRecDepth 1000000 in
set_option maxHeartbeats 400000 in
theorem store_mark (o n : Int) (bl : Bool) (w : World) (wo : (Lit.int .i64 o).wf = true) (wn : (Lit.int .i64 n).wf = true) :
    Calls Try.prog 16 #[.int .i64 1, .bool bl, .int .i64 o, .int .i64 n] w (Gives (if bl then padd [] o else padd (padd [] o) n) w) := by
  have HO := Lib.hid wo
  have HN := Lib.hid wn
  clear wo wn
  have hmm := @run_makeMap Try.prog
  cases bl
  · go_enter Try.func16, Try.ntmps16
    go_wp2_with fail
    refine (put_any w.heap.size _ w.heap.size [] _ _ (namesAt_new w) HO.out (by simp)).mono ?_
    rintro e w1 ⟨rfl, h1, hb1⟩
    have hw1 := (((Below.refl w.heap.size w).alloc (Nat.le_refl _) _).alloc (by simp) _).trans hb1
    have hl1 := padd_length [] o
    have HI := Lib.hid h1
    clear hb1 h1
    generalize padd [] o = l1 at *
    dsimp only
    go_wp2_with fail
    refine (put_any w.heap.size _ w.heap.size l1 _ _ HI.out HN.out (by simp at hl1; omega)).mono ?_
    rintro e w2 ⟨rfl, h2, hb2⟩
    have hw2 := hw1.trans hb2
    obtain ⟨a, c, hc, ho⟩ := names_read h2
    have HR := Lib.hid ho
    clear hb2 h2 ho hw1 HI
    generalize padd l1 n = l2 at *
    dsimp only
    go_wp2_with fail
    go_ret
    exact ⟨a, c, rfl, HR.out, hw2⟩
  · go_enter Try.func16, Try.ntmps16
    go_wp2_with fail
    refine (put_any w.heap.size _ w.heap.size [] _ _ (namesAt_new w) HO.out (by simp)).mono ?_
    rintro e w1 ⟨rfl, h1, hb1⟩
    have hw1 := (((Below.refl w.heap.size w).alloc (Nat.le_refl _) _).alloc (by simp) _).trans hb1
    obtain ⟨a, c, hc, ho⟩ := names_read h1
    have HR := Lib.hid ho
    clear hb1 h1 ho
    generalize padd [] o = l1 at *
    dsimp only
    go_wp2_with fail
    go_ret
    exact ⟨a, c, rfl, HR.out, hw1⟩

theorem store_any (p o n : Int) (bl : Bool) (w : World) (wo : (Lit.int .i64 o).wf = true) (wn : (Lit.int .i64 n).wf = true) :
    Calls Try.prog 16 #[.int .i64 p, .bool bl, .int .i64 o, .int .i64 n] w (Gives (store p bl o n) w) := by
  unfold store
  by_cases h : p = 1
  · subst h
    rw [if_pos rfl]
    exact store_mark o n bl w wo wn
  · rw [if_neg h]
    exact store_idle p o n bl w h

theorem birth_any (p : Int) (w : World) : Calls Try.prog 17 #[.int .i64 p] w fun e w' => e = .returned (.bool (p == 1)) ∧ w = w' := by
  go_enter Try.func17, Try.ntmps17
  go_wp2
  go_ret
  exact ⟨rfl, rfl⟩

theorem globals_any (p o n : Int) (bl : Bool) (w : World) (wo : (Lit.int .i64 o).wf = true) (wn : (Lit.int .i64 n).wf = true) :
    Calls Try.prog 35 #[.int .i64 p, .int .i64 o, .int .i64 n, .bool bl] w (Gives (store p bl o n) w) := by
  have HO := Lib.hid wo
  have HN := Lib.hid wn
  clear wo wn
  go_enter Try.func35, Try.ntmps35
  go_wp2_with fail
  refine (store_any p o n bl _ HO.out HN.out).mono ?_
  rintro e w1 ⟨a, c, rfl, ho, hb⟩
  have HR := Lib.hid ho
  clear ho
  generalize store p bl o n = l at *
  dsimp only
  go_wp2_with fail
  go_ret
  exact ⟨a, c, rfl, HR.out, hb⟩

theorem alive (w : World) : Calls Try.prog 15 #[] w fun e w' => e = .returned (.bool true) ∧ Below w.heap.size w w' := by
  go_enter Try.func15, Try.ntmps15
  go_wp2_with fail
  refine (store_any _ _ _ _ _ (by decide) (by decide)).mono ?_
  rw [show store 1 false 5 7 = [5, 7] by decide]
  rintro e w1 ⟨a, c, rfl, ho, hb⟩
  obtain ⟨g, rfl⟩ : ∃ g, a = some ⟨g, 0, none⟩ := by
    rcases ho.2 with ⟨_, h⟩ | ⟨g, _, _, h, _⟩
    · simp at h
    · injection h with h; exact ⟨g, h⟩
  have c0 : w1.cell? ⟨g, 0, none⟩ = some (.int .i64 5) := ho.cells (g := g) rfl 0 _ rfl
  have c1 : w1.cell? ⟨g, 1, none⟩ = some (.int .i64 7) := by have := ho.cells (g := g) rfl 1 _ rfl; simpa [Addr.add] using this
  clear ho
  dsimp only
  go_wp2_with (go_at_call 17; refine (birth_any _ _).mono ?_; rintro e w1 ⟨rfl, rfl⟩; dsimp only)
  go_ret
  exact ⟨rfl, hb⟩

end Go.Proofs.Ytnolkgciapggdaa.Bar
