/- What the law of marking holds while it begins; what is reached, by the words and by the objects. -/
import Derived.Test.YtoajbjeiplolnaaDoorRRc
namespace Go.Proofs.YtoajbjeiplolnaaDoorR.Td
open Go.RowKit Ar Hp Tn
set_option linter.unusedSimpArgs false
set_option linter.unusedVariables false

/-- All of the list of one color: so many. -/
theorem cnt_all {A L : List Int} {c : Int → Int} {k : Int} (hn : L.Pairwise (· ≠ ·)) (hs : ∀ a ∈ L, a ∈ A ∧ c a = k) : L.length ≤ Tn.cnt A c k :=
  Tm.nodup_len _ _ hn fun a ha => List.mem_filter.2 ⟨(hs a ha).1, by simp [(hs a ha).2]⟩
theorem cnt_zero {A : List Int} {c : Int → Int} {k : Int} (h : ∀ a, c a ≠ k) : Tn.cnt A c k = 0 := by
  unfold Tn.cnt
  rw [List.length_eq_zero_iff, List.filter_eq_nil_iff]
  intro a _ e
  exact h a (by simpa using e)
theorem shade_beg {ls : List (List Int)} {σ : HS} {R : Nat} {F : List Int} {T : TS} {x a : Int} (hG : Gd σ) (hI : Inv ls σ (fun b => b ∈ F) noX T) (hf : fo σ x = some a) (hc : ∀ b, T.c b ≠ 0 ↔ b ∈ F) (h2 : ∀ b, T.c b ≠ 2) :
    Inv ls σ (fun b => b ∈ F ++ [a]) noX (shA σ R [x] (T, 0)).1 ∧ (∀ b, (shA σ R [x] (T, 0)).1.c b ≠ 0 ↔ b ∈ F ++ [a]) ∧ (∀ b, (shA σ R [x] (T, 0)).1.c b ≠ 2) ∧ (shA σ R [x] (T, 0)).2 = if a ∈ F then 0 else 1 := by
  show Inv ls σ (fun b => b ∈ F ++ [a]) noX (sh1 σ R (T, 0) x).1 ∧ (∀ b, (sh1 σ R (T, 0) x).1.c b ≠ 0 ↔ b ∈ F ++ [a]) ∧ (∀ b, (sh1 σ R (T, 0) x).1.c b ≠ 2) ∧ (sh1 σ R (T, 0) x).2 = if a ∈ F then 0 else 1
  obtain ⟨g1, _⟩ := Inv.sh1_ (room := R) (p := (T, 0)) (S' := fun b => b ∈ F ++ [a]) (v := x) hG hI (fun b hb => by
    rw [hf] at hb
    injection hb with hb
    exact .base (by simp [hb])) (fun b hb => List.mem_append_left _ hb) (fun b hb => by
    rcases List.mem_append.1 hb with hb | hb
    · exact .inl hb
    · right
      rw [List.mem_singleton.1 hb]
      exact hf)
  refine ⟨g1, ?_⟩
  by_cases ha : a ∈ F
  · rw [sh1_old hf ((hc a).2 ha), if_pos ha]
    refine ⟨fun b => ?_, h2, rfl⟩
    rw [hc, List.mem_append, List.mem_singleton]
    constructor
    · exact .inl
    · rintro (h | rfl)
      · exact h
      · exact ha
  · have h0 : T.c a = 0 := Decidable.byContradiction fun h => ha ((hc a).1 h)
    rw [sh1_new hf h0, if_neg ha]
    have hu : ∀ b, upd T.c a 1 b = if b = a then 1 else T.c b := fun b => rfl
    refine ⟨fun b => ?_, fun b => ?_, rfl⟩
    · show upd T.c a 1 b ≠ 0 ↔ _
      rw [hu, List.mem_append, List.mem_singleton]
      by_cases e : b = a
      · simp [e]
      · rw [if_neg e, hc]
        simp [e]
    · show upd T.c a 1 b ≠ 2
      rw [hu]
      by_cases e : b = a
      · rw [if_pos e]
        decide
      · rw [if_neg e]
        exact h2 b
theorem three_none (σ : HS) (R : Nat) (T : TS) : (shA σ R [0, 5, -1] (T, 0)).2 = 0 := by
  show (sh1 σ R (sh1 σ R (sh1 σ R (T, 0) 0) 5) (-1)).2 = 0
  rw [sh1_none (fo_low (by decide)), sh1_none (fo_low (by decide)), sh1_none (fo_low (by decide))]
theorem three_src (w : World) (P : Nat → Prop) (hP : ∀ i, P i → i < w.heap.size) : ∀ (j : Nat) (z : Int), ([0, 5, -1] : List Int)[j]? = some z → ∃ sb off, some (⟨w.heap.size, 0, none⟩ : Addr) = some ⟨sb, off, none⟩ ∧ sb < (w.alloc (.cells #[.int .i64 0, .int .i64 5, .int .i64 (-1)] 3)).heap.size ∧ ¬ P sb ∧ (w.alloc (.cells #[.int .i64 0, .int .i64 5, .int .i64 (-1)] 3)).cell? ⟨sb, off + j, none⟩ = some (.int .i64 z) := fun j z hz => by
  refine ⟨w.heap.size, 0, rfl, by simp, fun e => Nat.lt_irrefl _ (hP _ e), ?_⟩
  rw [(Blk.new w #[.int .i64 0, .int .i64 5, .int .i64 (-1)] 3).cell]
  rcases j with _ | _ | _ | j
  · simp at hz
    subst hz
    rfl
  · simp at hz
    subst hz
    rfl
  · simp at hz
    subst hz
    rfl
  · simp at hz
theorem hat_zero (σ : HS) : hat σ 0 = none := by
  unfold hat slot
  rw [if_pos (by decide)]
theorem LQ.of {ls : List (List Int)} {σ σ1 : HS} {L F : List Int} (h : Ob ls σ L) (he : Evo σ σ1) (hF : ∀ x ∈ F, x ∈ L) : LQ ls σ1 L F :=
  ⟨fun x hx => by
    obtain ⟨k, s, _, _, hq, _⟩ := h.at_ x hx
    exact ⟨k, s, (he.hat_ x).trans hq⟩, fun a x hx => h.ptr a x (by rw [he.ptrs_] at hx; exact hx), hF, hat_zero σ1⟩
theorem Rl.rch {ls : List (List Int)} {σ σ1 : HS} {L F : List Int} (h : Ob ls σ L) (he : Evo σ σ1) (a : Int) : Rl ls σ1 F a ↔ Rch ls σ (fun b => b ∈ F) a := by
  constructor
  · intro ha
    induction ha with
    | base h => exact .base h
    | step _ hv h0 ih =>
      rw [he.ptrs_] at hv
      rcases h.ptr _ _ hv with h1 | h1
      · exact absurd h1 h0
      · exact .step ih hv (h.fo_ h1)
  · intro ha
    induction ha with
    | base h => exact .base h
    | step _ hv hb ih =>
      obtain ⟨_, rfl⟩ := h.word hv hb
      refine .step ih (by rw [he.ptrs_]; exact hv) ?_
      rintro rfl
      rw [fo_low (by decide)] at hb
      cases hb
/-- The state of the law while it begins: F were shaded; Fb is the row; G the map's. -/
structure Bg (w wr : World) (E : TB) (σ : HS) (T : TS) (σ1 : HS) (v : Value) (L : List Int) (A1 : Option Addr) (c1 : Nat) (F Fb : List Int) (Ab : Option Addr) (cb bm : Nat) (Tk G : List Int) : Prop where
  rd : Rd w wr E σ T σ1 v L A1 c1
  inv : Inv E.ls σ (fun b => b ∈ F) noX T
  row : wr.ownsRow w.heap.size 3 1 (.slice Ab Fb.length cb) Fb.length (ints' Fb)
  rf : ∀ i, (Value.slice Ab Fb.length cb).ownBlock = some i → ¬ E.foot σ v i ∧ E.B.z ≤ i ∧ (Value.slice A1 L.length c1).ownBlock ≠ some i
  mp : BMap wr bm Tk (fun x => decide (x ∈ Tk))
  mf : ¬ E.foot σ v bm ∧ E.B.z ≤ bm ∧ (Value.slice A1 L.length c1).ownBlock ≠ some bm
  tk : ∀ x, x ∈ Tk ↔ x ∈ G
  fl : ∀ x ∈ F, x ∈ L
  cl : ∀ b, T.c b ≠ 0 ↔ b ∈ F
  c2 : ∀ b, T.c b ≠ 2
section
variable {w wr w' : World} {E : TB} {σ : HS} {T T' : TS} {σ1 σ' : HS} {v v' : Value} {L : List Int} {A1 : Option Addr} {c1 : Nat} {F Fb : List Int} {Ab : Option Addr} {cb bm : Nat} {Tk G : List Int} {a : Int}
theorem Bg.call (h : Bg w wr E σ T σ1 v L A1 c1 F Fb Ab cb bm Tk G) (hb : Below wr.heap.size wr w') : Bg w w' E σ T σ1 v L A1 c1 F Fb Ab cb bm Tk G :=
  { h with
    rd := h.rd.call hb
    row := own_block h.row fun k hk => hb.block k (h.row.lt k hk).2
    mp := h.mp.block (hb.block _ h.mp.lt) }
theorem Bg.app {o : Obj} {Ab' : Option Addr} {cb' : Nat} (h : Bg w wr E σ T σ1 v L A1 c1 F Fb Ab cb bm Tk G) (h0 : 0 < w.heap.size)
    (ho : w'.ownsRow w.heap.size 3 1 (.slice Ab' (Fb.length + 1) cb') (Fb.length + 1) (ints' Fb ++ [.int .i64 a])) (hg : (wr.alloc o).grownBy w' (Value.slice Ab Fb.length cb).ownBlock) (hat : (Value.slice Ab' (Fb.length + 1) cb').ownBlock = (Value.slice Ab Fb.length cb).ownBlock ∨ (Value.slice Ab' (Fb.length + 1) cb').ownBlock = some (wr.heap.size + 1)) :
    Bg w w' E σ T σ1 v L A1 c1 F (Fb ++ [a]) Ab' cb' bm Tk G := by
  have hl : (Fb ++ [a]).length = Fb.length + 1 := by simp
  have hk : Kept (fun k => some k = (Value.slice Ab Fb.length cb).ownBlock) wr w' := (Kept.of_below (fresh_alloc (Below.refl _ _) _) _).step (Kept.of_grown hg) (fun i _ e => e)
  have hz : E.B.z < wr.heap.size := h.rd.tr.hw.hp.z_lt
  refine { h with rd := h.rd.aside h0 hk fun i e => h.rf i e.symm, row := by rw [hl]; simpa [ints'] using ho, rf := fun i hi => ?_, mp := h.mp.block (hk.block bm h.mp.lt fun e => own_neM h.row h.mp e) }
  rw [hl] at hi
  rcases hat with e | e
  · exact h.rf i (e.symm.trans hi)
  · have e2 : i = wr.heap.size + 1 := Option.some.inj (hi.symm.trans e)
    refine ⟨fun e3 => ?_, by omega, fun e3 => ?_⟩
    · have := h.rd.tr.foot_lt e3
      omega
    · have := (h.rd.row.lt i e3).2
      omega
theorem Bg.shade {F' : List Int} (h : Bg w wr E σ T σ1 v L A1 c1 F Fb Ab cb bm Tk G) (ht : TR w w' E σ T' σ' v') (hk : Kept (E.foot σ v) wr w') (hg : Pil.Grow v v' wr.heap.size) (hi : Inv E.ls σ (fun b => b ∈ F') noX T') (hc : ∀ b, T'.c b ≠ 0 ↔ b ∈ F') (h2 : ∀ b, T'.c b ≠ 2) (hf : ∀ x ∈ F', x ∈ L) :
    Bg w w' E σ T' σ' v' L A1 c1 F' Fb Ab cb bm Tk G :=
  ⟨h.rd.next ht hk hg, hi, own_block h.row fun k hk2 => hk.block k (h.row.lt k hk2).2 (h.rf k hk2).1, fun i hi => ⟨fun e => (h.rf i hi).1 (foot_grow hg (h.row.lt i hi).2 e), (h.rf i hi).2⟩, h.mp.block (hk.block bm h.mp.lt h.mf.1), ⟨fun e => h.mf.1 (foot_grow hg h.mp.lt e), h.mf.2⟩, h.tk, hf, hc, h2⟩
theorem Bg.upd (h : Bg w wr E σ T σ1 v L A1 c1 F Fb Ab cb bm Tk G) (h0 : 0 < w.heap.size) (hm : BMap w' bm (addT Tk a) (fun x => if x = a then true else decide (x ∈ Tk))) (hg : wr.grownBy w' (some bm)) :
    Bg w w' E σ T σ1 v L A1 c1 F Fb Ab cb bm (addT Tk a) (G ++ [a]) := by
  have hk := Kept.of_grown hg
  rw [dec_addT] at hm
  refine { h with rd := h.rd.aside h0 hk fun i e => by cases e; exact h.mf, row := own_block h.row fun k hk2 => hg.block k (h.row.lt k hk2).2 fun e => own_neM h.row h.mp (by rw [hk2, e]), mp := hm, tk := fun x => ?_ }
  rw [mem_addT, h.tk, List.mem_append, List.mem_singleton]
  exact Or.comm
end
end Go.Proofs.YtoajbjeiplolnaaDoorR.Td
