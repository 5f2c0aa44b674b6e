/- Package besombook: all lists are marked (putInts). -/
import Derived.Test.YtfgpadkoonogpaaDoorBook4
namespace Go.Proofs.YtfgpadkoonogpaaDoor.Book
open Go.RowKit
set_option linter.unusedSimpArgs false
set_option linter.unusedVariables false

/-- The lists of a book, without the copies. -/
structure BK (w : World) (S : Nat → Prop) (base b : Nat) (ks : List KL) (vI vW : Value) : Prop where
  blk : Blk w b #[vI, vW, .slice none 0 0, .slice none 0 0, .slice none 0 0, .slice none 0 0, .slice none 0 0, .slice none 0 0, .slice none 0 0, .slice none 0 0] 38
  sb : S b
  oI : w.ownsRow base 27 1 vI ks.length (ks.map Prod.fst)
  sI : ∀ k, vI.ownBlock = some k → S k
  li : Own w S base ks
  ap : Sep ks
  few : ks.length ≤ 250
theorem BookAt.bk {w : World} {S : Nat → Prop} {base b : Nat} {ks ms : List KL} {vI vW : Value} (h : BookAt w S base b ks ms vI vW) : BK w S base b ks vI vW := ⟨h.blk, h.sb, h.oI, h.sI, h.li, h.ap, h.few⟩
/-- One element of an owned row is stored. -/
theorem own_set {w : World} {B e : Nat} {g n c : Nat} {xs : List Value} (h : w.ownsRow B e 1 (.slice (some ⟨g, 0, none⟩) n c) n xs) (j : Nat) (hj : j < n) (u : Value) :
    (w.setCell ⟨g, j, none⟩ u).ownsRow B e 1 (.slice (some ⟨g, 0, none⟩) n c) n (xs.set j u) := by
  refine ⟨by simpa using h.1, ?_⟩
  rcases h.2 with ⟨h1, _⟩ | ⟨g', cap, cur, hv, hb, hh, hnc, hm, hs, ht⟩
  · simp at h1
  · injection hv with h1 _ h3
    injection h1 with h1
    injection h1 with h1
    subst h1 h3
    have hk : Blk w g cur e := hh
    refine .inr ⟨g, c, cur.setIfInBounds j u, rfl, hb, hk.set j u, hnc, hm, by simpa using hs, ?_⟩
    rw [← ht]
    simp only [Array.toList_setIfInBounds, Nat.mul_one]
    rw [List.take_set]
theorem own_at {w : World} {B e : Nat} {g n c : Nat} {xs : List Value} (h : w.ownsRow B e 1 (.slice (some ⟨g, 0, none⟩) n c) n xs) {j : Nat} {u : Value} (hu : xs[j]? = some u) :
    w.cell? ⟨g, j, none⟩ = some u ∧ w.frozen? ⟨g, j, none⟩ = false := by
  have hc := h.cells (g := g) rfl j u hu
  rw [add_form, Nat.zero_add] at hc
  refine ⟨hc, ?_⟩
  rcases h.2 with ⟨h1, _⟩ | ⟨g', cap, cur, hv, hb, hh, _⟩
  · simp at h1
  · injection hv with h1 _ h3
    injection h1 with h1
    injection h1 with h1
    subst h1
    exact (show Blk w g cur e from hh).free j
namespace BK
variable {w w' : World} {S : Nat → Prop} {base b : Nat} {ks : List KL} {vI vW : Value}
theorem keep {S' : Nat → Prop} (h : BK w S base b ks vI vW) (hk : ∀ k, S k → k < w.heap.size → w'.heap[k]? = w.heap[k]?) (hs : ∀ k, S k → S' k) : BK w' S' base b ks vI vW :=
  ⟨(hk b h.sb h.blk.lt).trans h.blk, hs _ h.sb, own_block h.oI fun k e => hk k (h.sI k e) (h.oI.lt k e).2, fun k e => hs k (h.sI k e), h.li.keep (fun p hp k e => hk k ((h.li p hp).2.2 k e) (h.li.lt hp e)) hs, h.ap, h.few⟩
theorem call (h : BK w S base b ks vI vW) (hb : Below w.heap.size w w') : BK w' S base b ks vI vW := h.keep (fun k _ hk => hb.block k hk) (fun _ h => h)
theorem neI (h : BK w S base b ks vI vW) : some b ≠ vI.ownBlock := own_ne h.oI h.blk (by decide)
theorem nep (h : BK w S base b ks vI vW) {p : KL} (hp : p ∈ ks) {k : Nat} (he : p.1.ownBlock = some k) : b ≠ k := by
  rintro rfl
  exact own_ne (h.li p hp).1 h.blk (by decide) he.symm
/-- One element of one list is stored. -/
theorem setList (h : BK w S base b ks vI vW) {i j g c : Nat} {xs : List Int} (hi : ks[i]? = some (.slice (some ⟨g, 0, none⟩) xs.length c, xs)) (hj : j < xs.length) (y : Int) :
    BK (w.setCell ⟨g, j, none⟩ (.int .i64 y)) S base b (ks.set i (.slice (some ⟨g, 0, none⟩) xs.length c, xs.set j y)) vI vW := by
  have hm := List.mem_of_getElem? hi
  have hil : i < ks.length := (List.getElem?_eq_some_iff.1 hi).1
  have hown := (h.li _ hm)
  have hfst : (ks.set i (.slice (some ⟨g, 0, none⟩) xs.length c, xs.set j y)).map Prod.fst = ks.map Prod.fst := by
    rw [List.map_set]
    apply List.ext_getElem?
    intro k
    rw [List.getElem?_set]
    by_cases hk : i = k
    · subst hk
      have : (ks.map Prod.fst)[i]? = some (.slice (some ⟨g, 0, none⟩) xs.length c) := by rw [List.getElem?_map, hi]; rfl
      rw [if_pos rfl, if_pos (by simpa using hil), this]
    · simp [hk]
  refine ⟨h.blk.other (a := ⟨g, j, none⟩) (h.nep hm rfl) _, h.sb, ?_, h.sI, ?_, ?_, by simpa using h.few⟩
  · rw [List.length_set, hfst]
    exact own_block h.oI fun k e => Below.heap_setCell w ⟨g, j, none⟩ _ k (fun e2 => by subst e2; exact h.li.ne_type hm rfl h.oI (by decide) e)
  · intro p hp
    obtain ⟨k, hk⟩ := List.mem_iff_getElem?.1 hp
    rw [List.getElem?_set] at hk
    by_cases hik : i = k
    · subst hik
      simp [hil] at hk
      subst hk
      refine ⟨?_, by simpa using hown.2.1, hown.2.2⟩
      have := own_set hown.1 j hj (.int .i64 y)
      simpa [List.map_set] using this
    · simp only [hik, if_false] at hk
      have hpm := List.mem_of_getElem? hk
      refine ⟨own_block (h.li p hpm).1 fun k' e => Below.heap_setCell w ⟨g, j, none⟩ _ k' (fun e2 => ?_), (h.li p hpm).2⟩
      subst e2
      exact hik (h.ap i k _ p _ hi hk rfl e)
  · intro a a' p q k ha ha' hp hq
    have aux : ∀ (a : Nat) (p : KL), (ks.set i (.slice (some ⟨g, 0, none⟩) xs.length c, xs.set j y))[a]? = some p → ∃ p', ks[a]? = some p' ∧ p'.1 = p.1 := by
      intro a p ha
      rw [List.getElem?_set] at ha
      by_cases hia : i = a
      · subst hia
        simp [hil] at ha
        subst ha
        exact ⟨_, hi, rfl⟩
      · simp only [hia, if_false] at ha
        exact ⟨p, ha, rfl⟩
    obtain ⟨p', h1, h2⟩ := aux a p ha
    obtain ⟨q', h3, h4⟩ := aux a' q ha'
    exact h.ap a a' p' q' k h1 h3 (h2 ▸ hp) (h4 ▸ hq)
end BK
/-- The first lists are marked; of the next one the first j numbers. -/
def mk (ks : List KL) (i : Nat) : List KL := ks.mapIdx fun k p => if k < i then (p.1, marks k 0 p.2.length) else p
theorem mk_length (ks : List KL) (i : Nat) : (mk ks i).length = ks.length := by simp [mk]
theorem mk_zero (ks : List KL) : mk ks 0 = ks := by
  apply List.ext_getElem?
  intro k
  simp [mk]
theorem mk_at (ks : List KL) (i k : Nat) : (mk ks i)[k]? = ks[k]?.map fun p => if k < i then (p.1, marks k 0 p.2.length) else p := by
  simp [mk]
/-- n numbers, j of them marked. -/
def part (i j : Nat) (xs : List Int) : List Int := marks i 0 j ++ xs.drop j
theorem part_length (i j : Nat) (xs : List Int) (h : j ≤ xs.length) : (part i j xs).length = xs.length := by simp [part, marks_length]; omega
theorem part_zero (i : Nat) (xs : List Int) : part i 0 xs = xs := by simp [part, marks]
theorem part_all (i : Nat) (xs : List Int) : part i xs.length xs = marks i 0 xs.length := by simp [part]
theorem part_set (i j : Nat) (xs : List Int) (h : j < xs.length) : (part i j xs).set j (-1000000 * (i : Int) - ((0 : Int) + (j : Int)) - 7) = part i (j + 1) xs := by
  unfold part
  rw [marks_succ]
  apply List.ext_getElem?
  intro k
  rw [List.getElem?_set]
  by_cases hk : j = k
  · subst hk
    simp [marks_length, List.getElem?_append, h]
    omega
  · simp only [hk, if_false, List.getElem?_append, marks_length, List.length_append, List.length_singleton, List.getElem?_drop]
    grind
end Go.Proofs.YtfgpadkoonogpaaDoor.Book
