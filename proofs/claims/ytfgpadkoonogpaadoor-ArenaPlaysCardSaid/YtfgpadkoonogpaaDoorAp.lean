/- What the law of the arena's plays holds: an arena, the law's own model of it, a book, an op. -/
import Derived.Test.YtfgpadkoonogpaaDoorArM
namespace Go.Proofs.YtfgpadkoonogpaaDoor.Ar
open Go.RowKit Pg
set_option linter.unusedSimpArgs false
set_option linter.unusedVariables false

/-- The blocks. -/
structure ML where
  b : Nat
  gp : Nat
  gw : Nat
  bm : Nat
  bc : Nat
  bu : Nat
  bw : Nat
  bk : Nat
/-- The model's blocks. -/
def MF (X : ML) (gs : Nat → Nat) (qs : List (Option PM)) (i : Nat) : Prop := i = X.bm ∨ i = X.bc ∨ i = X.bu ∨ i = X.bw ∨ ∃ (k : Nat) (p : PM), qs[k]? = some (some p) ∧ gs k = i
abbrev Md (w : World) (X : ML) (gs : Nat → Nat) (qs : List (Option PM)) (vs : List Int) : Prop := MdlAt w X.bm X.bc X.bu X.bw gs qs vs
abbrev AF (X : ML) (ps : List (Option PM)) (i : Nat) : Prop := Foot X.b X.gp X.gw ps i
theorem map_set_same {α β : Type} (f : α → β) {l : List α} {k : Nat} {a b : α} (hk : l[k]? = some a) (hf : f b = f a) : (l.set k b).map f = l.map f := by
  apply List.ext_getElem?
  intro i
  rw [List.getElem?_map, List.getElem?_map]
  by_cases e : k = i
  · subst e
    rw [List.getElem?_set_self (List.getElem?_eq_some_iff.1 hk).1, hk]
    simp [hf]
  · rw [List.getElem?_set_ne e]
theorem urow_at (gs : Nat → Nat) (ps : List (Option PM)) (i : Nat) : (urow gs ps)[i]? = (ps[i]?).map fun p => uv (gs i) p := by simp [urow]
theorem urow_upd (gs : Nat → Nat) (ps : List (Option PM)) (k g : Nat) (p : Option PM) : (urow gs ps).setIfInBounds k (uv g p) = urow (fun i => if i = k then g else gs i) (ps.set k p) := by
  apply Array.ext_getElem?
  intro i
  rw [urow_at]
  by_cases e : k = i
  · subst e
    by_cases h : k < ps.length
    · rw [Array.getElem?_setIfInBounds_self_of_lt (by rw [urow_size]; exact h), List.getElem?_set_self h]
      simp
    · rw [Array.getElem?_eq_none (by rw [Array.size_setIfInBounds, urow_size]; omega), List.getElem?_eq_none (by rw [List.length_set]; omega)]
      rfl
  · rw [Array.getElem?_setIfInBounds_ne e, List.getElem?_set_ne e, urow_at]
    have e2 : ¬ i = k := fun h => e h.symm
    simp [e2]
theorem urow_same (gs : Nat → Nat) {ps : List (Option PM)} {k : Nat} {p q : PM} (hk : ps[k]? = some (some p)) (hn : q.n = p.n) : urow gs (ps.set k (some q)) = urow gs ps := by
  apply Array.ext_getElem?
  intro i
  rw [urow_at, urow_at]
  by_cases e : k = i
  · subst e
    rw [List.getElem?_set_self (List.getElem?_eq_some_iff.1 hk).1, hk]
    simp [uv, hn]
  · rw [List.getElem?_set_ne e]
section
variable {w w' : World} {X : ML} {gs : Nat → Nat} {qs : List (Option PM)} {vs : List Int}
theorem MdlAt.lt (h : Md w X gs qs vs) {i : Nat} (hi : MF X gs qs i) : i < w.heap.size := by
  rcases hi with rfl | rfl | rfl | rfl | ⟨k, p, hk, rfl⟩
  · exact h.blk.lt
  · exact h.cls.lt
  · exact h.row.lt
  · exact h.wrd.lt
  · exact (h.each k p hk).1.lt
theorem MdlAt.keep (h : Md w X gs qs vs) (hb : ∀ i, MF X gs qs i → w'.heap[i]? = w.heap[i]?) : Md w' X gs qs vs :=
  { h with
    blk := (hb _ (.inl rfl)).trans h.blk
    cls := (hb _ (.inr (.inl rfl))).trans h.cls
    row := (hb _ (.inr (.inr (.inl rfl)))).trans h.row
    wrd := (hb _ (.inr (.inr (.inr (.inl rfl))))).trans h.wrd
    each := fun k p hk => ⟨(hb _ (.inr (.inr (.inr (.inr ⟨k, p, hk, rfl⟩))))).trans (h.each k p hk).1, (h.each k p hk).2⟩ }
/-- A page is put into the model, or taken out. -/
theorem MdlAt.cu (h : Md w X gs qs vs) {k : Nat} {p' : Option PM} {g : Nat} (hK : Kept (fun i => i = X.bc ∨ i = X.bu) w w')
    (h1 : Blk w' X.bc ((cells (qs.map cl)).setIfInBounds k (.int .i64 (cl p'))) 3) (h2 : Blk w' X.bu ((urow gs qs).setIfInBounds k (uv g p')) 43)
    (hp : ∀ p, p' = some p → Blk w' g (bcf p.n p.U.testBit) 4 ∧ Cls.csl p.c = (p.n : Int) ∧ p.n ≤ 32 ∧ 0 < p.n ∧ (∀ i, p.U.testBit i = true → i < p.n) ∧ ∀ j q, qs[j]? = some (some q) → gs j ≠ g) :
    Md w' X (fun i => if i = k then g else gs i) (qs.set k p') vs := by
  have hx : ∀ (j : Nat) (q : PM), (qs.set k p')[j]? = some (some q) → (j = k ∧ p' = some q) ∨ (j ≠ k ∧ qs[j]? = some (some q)) := by
    intro j q hj
    by_cases e : k = j
    · subst e
      have hl := (List.getElem?_eq_some_iff.1 hj).1
      rw [List.length_set] at hl
      rw [List.getElem?_set_self hl] at hj
      exact .inl ⟨rfl, Option.some.inj hj⟩
    · rw [List.getElem?_set_ne e] at hj
      exact .inr ⟨fun e2 => e e2.symm, hj⟩
  refine ⟨?_, ?_, ?_, ?_, h.nw, by rw [List.length_set]; exact h.hn, by rw [List.length_set]; exact h.hw, ?_, ?_⟩
  · rw [List.length_set]
    exact hK.blk h.blk fun e => by
      rcases e with e | e
      · exact blk_ne h.blk h.cls (by decide) e
      · exact blk_ne h.blk h.row (by decide) e
  · exact h1.of_eq (by rw [List.map_set, cells_set])
  · exact h2.of_eq (urow_upd gs qs k g p')
  · exact hK.blk h.wrd fun e => by
      rcases e with e | e
      · exact h.nw e.symm
      · exact blk_ne h.wrd h.row (by decide) e
  · intro j q hj
    rcases hx j q hj with ⟨rfl, e⟩ | ⟨e, hj2⟩
    · obtain ⟨g1, g2, g3, g4, g5, g6⟩ := hp q e
      rw [if_pos rfl]
      exact ⟨g1, g2, g3, g4, g5⟩
    · rw [if_neg e]
      exact ⟨hK.blk (h.each j q hj2).1 fun e => by
        rcases e with e | e
        · exact blk_ne (h.each j q hj2).1 h.cls (by decide) e
        · exact blk_ne (h.each j q hj2).1 h.row (by decide) e, (h.each j q hj2).2⟩
  · intro i j p q hi hj e
    rcases hx i p hi with ⟨rfl, e1⟩ | ⟨e1, hi2⟩
    · rcases hx j q hj with ⟨rfl, e2⟩ | ⟨e2, hj2⟩
      · rfl
      · rw [if_pos rfl, if_neg e2] at e
        exact absurd e.symm ((hp p e1).2.2.2.2.2 j q hj2)
    · rcases hx j q hj with ⟨rfl, e2⟩ | ⟨e2, hj2⟩
      · rw [if_neg e1, if_pos rfl] at e
        exact absurd e ((hp q e2).2.2.2.2.2 i p hi2)
      · rw [if_neg e1, if_neg e2] at e
        exact h.inj i j p q hi2 hj2 e
/-- A slot is said to be used, or free. -/
theorem MdlAt.put (h : Md w X gs qs vs) {k s : Nat} {p : PM} {x : Bool} {U' M' : Nat} (hk : qs[k]? = some (some p)) (hs : s < p.n) (hU : ∀ i, U'.testBit i = if i = s then x else p.U.testBit i) :
    Md (w.setCell ⟨gs k, s, none⟩ (.bool x)) X gs (qs.set k (some ⟨p.b, p.c, p.n, U', M'⟩)) vs := by
  have hK : Kept (fun i => i = gs k) w (w.setCell ⟨gs k, s, none⟩ (.bool x)) := (Kept.refl (fun i => i = gs k) w).set (p := ⟨gs k, s, none⟩) (.inl rfl) _
  have hl := (List.getElem?_eq_some_iff.1 hk).1
  have hx : ∀ (j : Nat) (q : PM), (qs.set k (some ⟨p.b, p.c, p.n, U', M'⟩))[j]? = some (some q) → (j = k ∧ q = ⟨p.b, p.c, p.n, U', M'⟩) ∨ (j ≠ k ∧ qs[j]? = some (some q)) := by
    intro j q hj
    by_cases e : k = j
    · subst e
      rw [List.getElem?_set_self hl] at hj
      exact .inl ⟨rfl, (Option.some.inj (Option.some.inj hj)).symm⟩
    · rw [List.getElem?_set_ne e] at hj
      exact .inr ⟨fun e2 => e e2.symm, hj⟩
  obtain ⟨g1, g2, g3, g4, g5⟩ := h.each k p hk
  refine ⟨?_, ?_, ?_, ?_, h.nw, by rw [List.length_set]; exact h.hn, by rw [List.length_set]; exact h.hw, ?_, ?_⟩
  · rw [List.length_set]
    exact hK.blk h.blk fun e => blk_ne h.blk g1 (by decide) e
  · exact (hK.blk h.cls fun e => blk_ne h.cls g1 (by decide) e).of_eq (by rw [map_set_same cl (b := some ⟨p.b, p.c, p.n, U', M'⟩) hk rfl])
  · exact (hK.blk h.row fun e => blk_ne h.row g1 (by decide) e).of_eq (urow_same gs (q := ⟨p.b, p.c, p.n, U', M'⟩) hk rfl).symm
  · exact hK.blk h.wrd fun e => blk_ne h.wrd g1 (by decide) e
  · intro j q hj
    rcases hx j q hj with ⟨rfl, rfl⟩ | ⟨e, hj2⟩
    · refine ⟨(g1.set s (.bool x)).of_eq ?_, g2, g3, g4, fun i hi => ?_⟩
      · rw [bcf_set]
        exact bcf_congr fun i _ => (hU i).symm
      · have := hU i
        dsimp only at hi
        rw [hi] at this
        by_cases e : i = s
        · rw [e]; exact hs
        · rw [if_neg e] at this
          exact g5 i this.symm
    · exact ⟨hK.blk (h.each j q hj2).1 fun e2 => e (h.inj j k q p hj2 hk e2), (h.each j q hj2).2⟩
  · intro i j p1 q1 hi hj e
    rcases hx i p1 hi with ⟨rfl, _⟩ | ⟨e1, hi2⟩
    · rcases hx j q1 hj with ⟨rfl, _⟩ | ⟨e2, hj2⟩
      · rfl
      · exact h.inj i j p q1 hk hj2 e
    · rcases hx j q1 hj with ⟨rfl, _⟩ | ⟨e2, hj2⟩
      · exact h.inj i j p1 p hi2 hk e
      · exact h.inj i j p1 q1 hi2 hj2 e
/-- A word is set. -/
theorem MdlAt.word (h : Md w X gs qs vs) (i : Nat) (v : Int) : Md (w.setCell ⟨X.bw, i, none⟩ (.int .i64 v)) X gs qs (vs.set i v) := by
  have hK : Kept (fun j => j = X.bw) w (w.setCell ⟨X.bw, i, none⟩ (.int .i64 v)) := (Kept.refl (fun j => j = X.bw) w).set (p := ⟨X.bw, i, none⟩) (.inl rfl) _
  refine ⟨?_, hK.blk h.cls h.nw, hK.blk h.row fun e => blk_ne h.row h.wrd (by decide) e, ?_, h.nw, h.hn, by rw [List.length_set]; exact h.hw, fun k p hk => ⟨hK.blk (h.each k p hk).1 fun e => blk_ne (h.each k p hk).1 h.wrd (by decide) e, (h.each k p hk).2⟩, h.inj⟩
  · rw [List.length_set]
    exact hK.blk h.blk fun e => blk_ne h.blk h.wrd (by decide) e
  · exact (h.wrd.set i (.int .i64 v)).of_eq (cells_set vs i v)
/-- A page that is put in, or taken out: the model's blocks. -/
theorem mf_cu {k g : Nat} {p' : Option PM} {i : Nat} (hi : MF X (fun i => if i = k then g else gs i) (qs.set k p') i) : MF X gs qs i ∨ (∃ p, p' = some p) ∧ i = g := by
  rcases hi with e | e | e | e | ⟨j, p, hj, e⟩
  · exact .inl (.inl e)
  · exact .inl (.inr (.inl e))
  · exact .inl (.inr (.inr (.inl e)))
  · exact .inl (.inr (.inr (.inr (.inl e))))
  · dsimp only at e
    by_cases ek : k = j
    · subst ek
      have hl := (List.getElem?_eq_some_iff.1 hj).1
      rw [List.length_set] at hl
      rw [List.getElem?_set_self hl] at hj
      rw [if_pos rfl] at e
      exact .inr ⟨⟨p, Option.some.inj hj⟩, e.symm⟩
    · rw [List.getElem?_set_ne ek] at hj
      rw [if_neg fun e2 => ek e2.symm] at e
      exact .inl (.inr (.inr (.inr (.inr ⟨j, p, hj, e⟩))))
theorem mf_put {k : Nat} {p q : PM} {i : Nat} (hk : qs[k]? = some (some p)) (hi : MF X gs (qs.set k (some q)) i) : MF X gs qs i := by
  rcases hi with e | e | e | e | ⟨j, p', hj, e⟩
  · exact .inl e
  · exact .inr (.inl e)
  · exact .inr (.inr (.inl e))
  · exact .inr (.inr (.inr (.inl e)))
  · by_cases ek : k = j
    · subst ek
      exact .inr (.inr (.inr (.inr ⟨k, p, hk, e⟩)))
    · rw [List.getElem?_set_ne ek] at hj
      exact .inr (.inr (.inr (.inr ⟨j, p', hj, e⟩)))
theorem af_put {k : Nat} {ps : List (Option PM)} {p : PM} {q : Option PM} {i : Nat} (hk : ps[k]? = some (some p)) (hb : ∀ x, q = some x → x.b = p.b) (hi : AF X (ps.set k q) i) : AF X ps i := by
  rcases hi with e | e | e | ⟨j, p', hj, e⟩
  · exact .inl e
  · exact .inr (.inl e)
  · exact .inr (.inr (.inl e))
  · by_cases ek : k = j
    · subst ek
      rw [List.getElem?_set_self (List.getElem?_eq_some_iff.1 hk).1] at hj
      exact .inr (.inr (.inr ⟨k, p, hk, by rw [← hb p' (Option.some.inj hj)]; exact e⟩))
    · rw [List.getElem?_set_ne ek] at hj
      exact .inr (.inr (.inr ⟨j, p', hj, e⟩))
theorem af_new {k : Nat} {ps : List (Option PM)} {p : PM} {i : Nat} (hi : AF X (ps.set k (some p)) i) : AF X ps i ∨ i = p.b := by
  rcases hi with e | e | e | ⟨j, p', hj, e⟩
  · exact .inl (.inl e)
  · exact .inl (.inr (.inl e))
  · exact .inl (.inr (.inr (.inl e)))
  · by_cases ek : k = j
    · subst ek
      have hl := (List.getElem?_eq_some_iff.1 hj).1
      rw [List.length_set] at hl
      rw [List.getElem?_set_self hl] at hj
      have := Option.some.inj (Option.some.inj hj)
      subst this
      exact .inr e.symm
    · rw [List.getElem?_set_ne ek] at hj
      exact .inl (.inr (.inr (.inr ⟨j, p', hj, e⟩)))
end
/-- The law's state. -/
structure AP (w wr : World) (X : ML) (gs : Nat → Nat) (ps qs : List (Option PM)) (ws vs : List Int) (S : Nat → Prop) (oo : Option (Nat × Array Value)) : Prop where
  aw : AW w wr X.b X.gp X.gw ps ws
  md : Md wr X gs qs vs
  mn : ∀ i, MF X gs qs i → w.heap.size ≤ i
  am : ∀ i, AF X ps i → ¬ MF X gs qs i
  bo : Book.BookIn wr S X.bk X.bk
  bs : ∀ k, S k → X.bk ≤ k
  bn : w.heap.size ≤ X.bk
  as_ : ∀ i, AF X ps i → ¬ S i
  ms : ∀ i, MF X gs qs i → ¬ S i
  op : ∀ a cs, oo = some (a, cs) → Blk wr a cs 40 ∧ ¬ AF X ps a ∧ ¬ MF X gs qs a ∧ ¬ S a ∧ w.heap.size ≤ a
namespace AP
variable {w wr w' : World} {X : ML} {gs gs' : Nat → Nat} {ps qs ps' qs' : List (Option PM)} {ws vs ws' vs' : List Int} {S : Nat → Prop} {oo : Option (Nat × Array Value)}
theorem call (h : AP w wr X gs ps qs ws vs S oo) (hb : Below wr.heap.size wr w') : AP w w' X gs ps qs ws vs S oo :=
  { h with
    aw := h.aw.call hb
    md := h.md.keep fun i hi => hb.block i (h.md.lt hi)
    bo := h.bo.call hb
    op := fun a cs e => ⟨(h.op a cs e).1.call hb, (h.op a cs e).2⟩ }
/-- Something was done to the arena. -/
theorem arn {T : Nat → Prop} (h : AP w wr X gs ps qs ws vs S oo) (h0 : 0 < w.heap.size) (ha : ArenaAt w' X.b X.gp X.gw ps' ws') (hk : Kept T wr w') (hT : ∀ i, T i → AF X ps i) (hf : ∀ i, AF X ps' i → AF X ps i ∨ wr.heap.size ≤ i) :
    AP w w' X gs ps' qs ws' vs S oo where
  aw := h.aw.step h0 ha hk (fun i e => h.aw.new i (hT i e)) fun i e => by
    rcases hf i e with e | e
    · exact h.aw.new i e
    · have := h.aw.bel.size
      omega
  md := h.md.keep fun i hi => hk.block i (h.md.lt hi) fun e => h.am i (hT i e) hi
  mn := h.mn
  am := fun i e hm => by
    rcases hf i e with e | e
    · exact h.am i e hm
    · have := h.md.lt hm
      omega
  bo := h.bo.kept hk fun k hs e => h.as_ k (hT k e) hs
  bs := h.bs
  bn := h.bn
  as_ := fun i e hs => by
    rcases hf i e with e | e
    · exact h.as_ i e hs
    · have := h.bo.1 i hs
      omega
  ms := h.ms
  op := fun a cs e => by
    obtain ⟨h1, h2, h3, h4, h5⟩ := h.op a cs e
    refine ⟨hk.blk h1 fun e => h2 (hT a e), fun e => ?_, h3, h4, h5⟩
    rcases hf a e with e | e
    · exact h2 e
    · have := h1.lt
      omega
/-- Something was done to the model. -/
theorem mdl {T : Nat → Prop} (h : AP w wr X gs ps qs ws vs S oo) (h0 : 0 < w.heap.size) (hm : Md w' X gs' qs' vs') (hk : Kept T wr w') (hT : ∀ i, T i → MF X gs qs i) (hf : ∀ i, MF X gs' qs' i → MF X gs qs i ∨ wr.heap.size ≤ i) :
    AP w w' X gs' ps qs' ws vs' S oo where
  aw := h.aw.step h0 (h.aw.ar.kept hk fun i hi e => h.am i hi (hT i e)) hk (fun i e => h.mn i (hT i e)) h.aw.new
  md := hm
  mn := fun i e => by
    rcases hf i e with e | e
    · exact h.mn i e
    · have := h.aw.bel.size
      omega
  am := fun i e hm => by
    rcases hf i hm with e2 | e2
    · exact h.am i e e2
    · have := h.aw.ar.lt e
      omega
  bo := h.bo.kept hk fun k hs e => h.ms k (hT k e) hs
  bs := h.bs
  bn := h.bn
  as_ := h.as_
  ms := fun i e hs => by
    rcases hf i e with e | e
    · exact h.ms i e hs
    · have := h.bo.1 i hs
      omega
  op := fun a cs e => by
    obtain ⟨h1, h2, h3, h4, h5⟩ := h.op a cs e
    refine ⟨hk.blk h1 fun e => h3 (hT a e), h2, fun e => ?_, h4, h5⟩
    rcases hf a e with e | e
    · exact h3 e
    · have := h1.lt
      omega
/-- An op was read. -/
theorem opd (h : AP w wr X gs ps qs ws vs S oo) (cs : Array Value) : AP w (wr.alloc (.cells cs 40)) X gs ps qs ws vs S (some (wr.heap.size, cs)) :=
  { h.call (fresh_alloc (Below.refl _ _) _) with
    op := fun a cs' e => by
      injection e with e
      injection e with e1 e2
      subst e1 e2
      refine ⟨Blk.new wr cs _, fun e => ?_, fun e => ?_, fun e => ?_, h.aw.bel.size⟩
      · have := h.aw.ar.lt e
        omega
      · have := h.md.lt e
        omega
      · have := h.bo.1 _ e
        omega }
/-- The op's number turned. -/
theorem ops {a : Nat} {cs : Array Value} (h : AP w wr X gs ps qs ws vs S (some (a, cs))) (h0 : 0 < w.heap.size) (i : Nat) (v : Value) : AP w (wr.setCell ⟨a, i, none⟩ v) X gs ps qs ws vs S (some (a, cs.setIfInBounds i v)) := by
  obtain ⟨h1, h2, h3, h4, h5⟩ := h.op a cs rfl
  have hk : Kept (fun j => j = a) wr (wr.setCell ⟨a, i, none⟩ v) := (Kept.refl (fun j => j = a) wr).set (p := ⟨a, i, none⟩) (.inl rfl) _
  exact { h with
    aw := h.aw.step h0 (h.aw.ar.kept hk fun j hj e => h2 (e ▸ hj)) hk (fun j e => e ▸ h5) h.aw.new
    md := h.md.keep fun j hj => hk.block j (h.md.lt hj) fun e => h3 (e ▸ hj)
    bo := h.bo.kept hk fun k hs e => h4 (e ▸ hs)
    op := fun a' cs' e => by
      injection e with e
      injection e with e1 e2
      subst e1 e2
      exact ⟨h1.set i v, h2, h3, h4, h5⟩ }
/-- No op any more. -/
theorem opn (h : AP w wr X gs ps qs ws vs S oo) : AP w wr X gs ps qs ws vs S none := { h with op := fun a cs e => by cases e }
/-- A list is kept in the book. -/
theorem ints (h : AP w wr X gs ps qs ws vs S oo) (h0 : 0 < w.heap.size) (hb : Below wr.heap.size wr w') {A : Option Addr} {c : Nat} {xs : List Int} (hv : w'.ownsRow wr.heap.size 3 1 (.slice A xs.length c) xs.length (xs.map (.int .i64))) (hx : xs.length ≤ 99000) :
    Calls Tryd.prog 16 #[.pointer (some ⟨X.bk, 0, none⟩), .slice A xs.length c] w' fun e w'' => e = .returned (.tuple #[]) ∧ Book.KeepsInts w' w'' ∧ ∃ S' : Nat → Prop, AP w w'' X gs ps qs ws vs S' oo := by
  have hz : X.bk ≤ wr.heap.size := Nat.le_of_lt (h.bo.1 _ h.bo.in_.1)
  refine (h.bo.ints hz hb hv hx).mono ?_
  rintro e w'' ⟨rfl, hk, hki, S', hb', hS'⟩
  have h' := h.call hb
  have hk2 : Kept (fun k => S k ∨ wr.heap.size ≤ k) w' w'' := hk
  refine ⟨rfl, hki, S', ?_⟩
  exact { h' with
    aw := h'.aw.step h0 (h'.aw.ar.kept hk2 fun i hi e => by
      rcases e with e | e
      · exact h.as_ i hi e
      · have := h.aw.ar.lt hi
        omega) hk2 (fun i e => by
      rcases e with e | e
      · have := h.bs i e
        have := h.bn
        omega
      · have := h.aw.bel.size
        omega) h'.aw.new
    md := h'.md.keep fun i hi => hk2.block i (h'.md.lt hi) fun e => by
      rcases e with e | e
      · exact h.ms i hi e
      · have := h.md.lt hi
        omega
    bo := hb'
    bs := fun k hk => by
      rcases hS' k hk with e | e
      · exact h.bs k e
      · omega
    as_ := fun i hi e => by
      rcases hS' i e with e | e
      · exact h.as_ i hi e
      · have := h.aw.ar.lt hi
        omega
    ms := fun i hi e => by
      rcases hS' i e with e | e
      · exact h.ms i hi e
      · have := h.md.lt hi
        omega
    op := fun a cs e => by
      obtain ⟨h1, h2, h3, h4, h5⟩ := h'.op a cs e
      have hl := (h.op a cs e).1.lt
      refine ⟨hk2.blk h1 fun e => ?_, h2, h3, fun e => ?_, h5⟩
      · rcases e with e | e
        · exact h4 e
        · omega
      · rcases hS' a e with e | e
        · exact h4 e
        · omega }
end AP
end Go.Proofs.YtfgpadkoonogpaaDoor.Ar
