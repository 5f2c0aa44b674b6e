/- Package barrier: the contract of (*names).put, over what the names are in memory. -/
import Derived.Test.YtnolkgciapggdaaMap
import Derived.Test.YtnolkgciapggdaaLib2
namespace Go.Proofs.Ytnolkgciapggdaa.Bar
open Go.RowKit
set_option linter.unusedSimpArgs false
set_option linter.unusedVariables false

theorem infoInt : (Try.prog.info? 3).map (fun i => (i.zero, i.size, i.bytes)) = some (some (.int .i64 0), 1, 8) := by kernel_rfl

/-- The names, each once, in order. -/
def padd (l : List Int) (v : Int) : List Int := if v = 0 ∨ v ∈ l then l else l ++ [v]
theorem padd_length (l : List Int) (v : Int) : (padd l v).length ≤ l.length + 1 := by unfold padd; split <;> simp

/-- Block b is a 'names', its map is block mb, all that it owns lies from block B on; the names are l. -/
def NamesAt (w : World) (B b mb : Nat) (l : List Int) : Prop :=
  ∃ v, Blk w b #[.map (some mb), v] 79 ∧ IMap w mb l.length (fun x => if x ∈ l then 1 else 0) ∧ w.ownsRow B 3 1 v l.length (l.map (.int .i64)) ∧ B ≤ b ∧ B ≤ mb

theorem slice_of {w : World} {B : Nat} {v : Value} {n : Nat} {xs : List Value} {e : TypeId} {size : Nat} (h : w.ownsRow B e size v n xs) : ∃ a c, v = .slice a n c := by
  rcases h.2 with ⟨rfl, rfl⟩ | ⟨g, c, _, rfl, _⟩
  · exact ⟨_, _, rfl⟩
  · exact ⟨_, _, rfl⟩
theorem row_ne {w : World} {B b : Nat} {v : Value} {n : Nat} {xs : List Value} {e T : TypeId} {size : Nat} {cs : Array Value} (h : w.ownsRow B e size v n xs) (hb : Blk w b cs T) (hne : e ≠ T) : some b ≠ v.ownBlock := by
  rcases h.2 with ⟨rfl, _⟩ | ⟨g, _, cur, rfl, _, hh, _⟩
  · simp [Value.ownBlock]
  · intro he
    have he' : b = g := by simpa [Value.ownBlock] using he
    subst he'
    have hb' : w.heap[b]? = some (.cells cs T (0, 0)) := hb
    rw [hb'] at hh
    injection hh with hh
    injection hh with _ ht
    exact hne ht.symm
theorem row_ne_map {w : World} {B b N : Nat} {f : Int → Int} {v : Value} {n : Nat} {xs : List Value} {e : TypeId} {size : Nat} (h : w.ownsRow B e size v n xs) (hb : IMap w b N f) : some b ≠ v.ownBlock := by
  rcases h.2 with ⟨rfl, _⟩ | ⟨g, _, cur, rfl, _, hh, _⟩
  · simp [Value.ownBlock]
  · intro he
    have he' : b = g := by simpa [Value.ownBlock] using he
    subst he'
    exact hb.ne_blk (b' := b) (cs := cur) (T := e) hh rfl

theorem grown_set (w : World) (b i : Nat) (u : Value) : w.grownBy (w.setCell ⟨b, i, none⟩ u) (some b) :=
  ⟨rfl, rfl, rfl, by simp [World.setCell], fun k _ hk => Below.heap_setCell w _ u k (fun e => hk (by rw [e]))⟩

theorem put_zero (B b mb : Nat) (l : List Int) (w : World) (h : NamesAt w B b mb l) :
    Calls Try.prog 49 #[.pointer (some ⟨b, 0, none⟩), .int .i64 0] w fun e w' => e = .returned (.tuple #[]) ∧ w = w' := by
  go_enter Try.func49, Try.ntmps49
  go_wp2
  refine bodyPost_ret (results_none rfl _ _ _) rfl ?_
  exact ⟨rfl, rfl⟩

theorem put_had (B b mb : Nat) (l : List Int) (v : Int) (w : World) (h : NamesAt w B b mb l) (wv : (Lit.int .i64 v).wf = true) (h0 : v ≠ 0) (hm : v ∈ l) :
    Calls Try.prog 49 #[.pointer (some ⟨b, 0, none⟩), .int .i64 v] w fun e w' => e = .returned (.tuple #[]) ∧ w = w' := by
  obtain ⟨u, hb, hi, ho, _, _⟩ := h
  have hl := hi.look 77 Try.underlying77 v wv
  rw [if_pos hm] at hl
  obtain ⟨c0, c1, f0, f1⟩ := hb.two
  have hz : (v == 0) = false := by simpa using h0
  clear hb hi ho hm h0 wv
  go_enter Try.func49, Try.ntmps49
  go_wp2
  refine bodyPost_ret (results_none rfl _ _ _) rfl ?_
  exact ⟨rfl, rfl⟩

set_option maxRecDepth 1000000 in
set_option maxHeartbeats 400000 in
theorem put_new (B b mb : Nat) (l : List Int) (v : Int) (w : World) (h : NamesAt w B b mb l) (wv : (Lit.int .i64 v).wf = true) (h0 : v ≠ 0) (hm : v ∉ l) (hlen : l.length ≤ 1000000) :
    Calls Try.prog 49 #[.pointer (some ⟨b, 0, none⟩), .int .i64 v] w fun e w' => e = .returned (.tuple #[]) ∧ NamesAt w' B b mb (l ++ [v]) ∧ Below B w w' := by
  obtain ⟨i0, hi0, hz0, hz1, hz2⟩ := info_parts infoInt
  obtain ⟨u, hb, hi, ho, hB1, hB2⟩ := h
  have hl := hi.look 77 Try.underlying77 v wv
  rw [if_neg hm] at hl
  obtain ⟨c0, c1, f0, f1⟩ := hb.two
  have hz : (v == 0) = false := by simpa using h0
  have HM := Lib.hid hm
  have HW := Lib.hid wv
  have hnb : some b ≠ some mb := fun e => hi.ne_blk hb (Option.some.inj e).symm
  have hnr := row_ne_map ho hi
  have hrb := row_ne ho hb (by decide)
  obtain ⟨sa, sc, rfl⟩ := slice_of ho
  have HNB := Lib.hid hnb
  have HNR := Lib.hid hnr
  have HRB := Lib.hid hrb
  have HB := Lib.hid hb
  have HO := Lib.hid ho
  clear hm h0 wv hnb hnr hrb hb ho
  go_enter Try.func49, Try.ntmps49
  go_wp2_with (first
    | (at_mapUpdate; refine wpList_upd rfl _ _ _ 77 rfl Try.underlying77 v 1 rfl rfl rfl hi (by unfold maxLen; omega) HW.out (by decide) ?_; intro w1 hi1 hg1; clear c0 c1 f0 f1 hl; have HB1 := Lib.hid (show Blk w1 b _ _ from (hg1.block b HB.out.lt HNB.out).trans HB.out); have HO1 := Lib.hid (HO.out.kept hg1 (.inr (Ne.symm HNR.out))); obtain ⟨c0, c1, f0, f1⟩ := HB1.out.two; have hbl := HB1.out.lt)
    | (at_builtin; go_loud (refine wpList_append_own _ rfl _ _ 23 rfl B 3 i0 (.int .i64 0) 1 8 Try.underlying23 hi0 hz0 hz1 hz2 rfl (by decide) _ _ _ rfl (HO1.out.alloc _) ⟨w1.heap.size, 0, none⟩ 1 1 [.int .i64 v] rfl rfl ?c1 ?c2 ?c3 ?c4 ?c5 ?_))
    | fail)
  case c1 => intro j u hj; match j, hj with | 0, hj => simp at hj; subst hj; simp [Addr.add]
  case c2 => intro u hu; simp at hu; subst hu; rfl
  case c3 => unfold maxLen; omega
  case c4 => omega
  case c5 => simp; omega
  intro v' w2 ho2 hg2 _
  obtain ⟨a', c', rfl⟩ := slice_of ho2
  have hB2' : Blk w2 b _ _ := (hg2.block b (by simp; omega) HRB.out).trans (HB1.out.alloc _)
  have hi2 : IMap w2 mb _ _ := hi1.block ((hg2.block mb (by have := hi1.lt; simp; omega) HNR.out).trans (Below.heap_alloc w1 _ mb hi1.lt))
  have hr2 := row_ne ho2 hB2' (by decide)
  have hbl1 := HB1.out.lt
  have hbl0 := HB.out.lt
  have hw2 : Below B w w2 := (((Below.refl B w).grown hg1 (by omega) (fun k hk => by cases hk; exact hB2)).alloc (by omega) _).grown hg2 (by simp; omega) (fun k hk => (HO1.out.lt k hk).1)
  have HB2 := Lib.hid hB2'
  have HI2 := Lib.hid hi2
  have HR2 := Lib.hid hr2
  have HO2 := Lib.hid ho2
  have HW2 := Lib.hid hw2
  clear c0 c1 f0 f1 hB2' hi2 hr2 ho2 hw2 hi1 hg1 hg2 hi0 hz0 hz1 hz2
  obtain ⟨c0, c1, f0, f1⟩ := HB2.out.two
  go_wp2_with fail
  go_end0
  refine ⟨rfl, ⟨_, Blk.of_eq (HB2.out.set 1 _) (by simp; rfl), ?_, ?_, hB1, hB2⟩, HW2.out.setCell hB1 _⟩
  · have hx : ∀ x, (if x = v then (1 : Int) else if x ∈ l then 1 else 0) = if x ∈ l ++ [v] then 1 else 0 := by
      intro x
      by_cases h1 : x = v <;> by_cases h2 : x ∈ l <;> simp [h1, h2]
    have h1 := HI2.out
    simp only [hx] at h1
    rw [List.length_append]
    exact (h1.block (Below.heap_setCell w2 _ _ mb (fun e => HNB.out (by rw [e])))).more (Nat.le_refl _)
  · have h1 := HO2.out.kept (grown_set w2 b 1 (.slice a' (l.length + 1) c')) (.inr (Ne.symm HR2.out))
    simpa using h1

theorem put_any (B b mb : Nat) (l : List Int) (v : Int) (w : World) (h : NamesAt w B b mb l) (wv : (Lit.int .i64 v).wf = true) (hlen : l.length ≤ 1000000) :
    Calls Try.prog 49 #[.pointer (some ⟨b, 0, none⟩), .int .i64 v] w fun e w' => e = .returned (.tuple #[]) ∧ NamesAt w' B b mb (padd l v) ∧ Below B w w' := by
  unfold padd
  by_cases h0 : v = 0
  · subst h0
    rw [if_pos (.inl rfl)]
    exact (put_zero B b mb l w h).mono fun _ _ ⟨he, hw⟩ => hw ▸ ⟨he, h, Below.refl _ _⟩
  by_cases hm : v ∈ l
  · rw [if_pos (.inr hm)]
    exact (put_had B b mb l v w h wv h0 hm).mono fun _ _ ⟨he, hw⟩ => hw ▸ ⟨he, h, Below.refl _ _⟩
  · rw [if_neg (by simp [h0, hm])]
    exact put_new B b mb l v w h wv h0 hm hlen

end Go.Proofs.Ytnolkgciapggdaa.Bar
