/- Plain facts for the arena's plays; the model when it is made. -/
import Derived.Test.YtfgpadkoonogpaaDoorAq
namespace Go.Proofs.YtfgpadkoonogpaaDoor.Ar
open Go.RowKit Pg
set_option linter.unusedSimpArgs false
set_option linter.unusedVariables false

theorem wf_bd {x : Int} (h : (Lit.int .i64 x).wf = true) : -9223372036854775808 ≤ x ∧ x ≤ 9223372036854775807 := by
  simp [Lit.wf, IntKind.min, IntKind.max, IntKind.signed, IntKind.bits] at h
  omega
theorem wrap_bd (x : Int) : -9223372036854775808 ≤ wrap64 x ∧ wrap64 x ≤ 9223372036854775807 := by
  unfold wrap64
  omega
/-- The first one of those from j on, below n. -/
def Fst (f : Nat → Bool) (j n : Nat) (wt : Int) : Prop := (wt = -1 ∧ ∀ i, j ≤ i → i < n → f i = false) ∨ ∃ k : Nat, wt = k ∧ j ≤ k ∧ k < n ∧ f k = true ∧ ∀ i, j ≤ i → i < k → f i = false
theorem Fst.start (f : Nat → Bool) (n : Nat) : Fst f n n (-1) := .inl ⟨rfl, fun i h1 h2 => by omega⟩
theorem Fst.no {f : Nat → Bool} {j n : Nat} {wt : Int} (h : Fst f (j + 1) n wt) (hf : f j = false) : Fst f j n wt := by
  rcases h with ⟨h1, h2⟩ | ⟨k, h1, h2, h3, h4, h5⟩
  · exact .inl ⟨h1, fun i hi hn => by
      by_cases e : i = j
      · rw [e]; exact hf
      · exact h2 i (by omega) hn⟩
  · exact .inr ⟨k, h1, by omega, h3, h4, fun i hi hk => by
      by_cases e : i = j
      · rw [e]; exact hf
      · exact h5 i (by omega) hk⟩
theorem Fst.yes {f : Nat → Bool} {j n : Nat} (hj : j < n) (hf : f j = true) : Fst f j n (j : Int) := .inr ⟨j, rfl, Nat.le_refl _, hj, hf, fun i h1 h2 => by omega⟩
/-- Is a page without a class, and a class one at all? -/
def wants (ps : List (Option PM)) (N : Int) (i : Nat) : Bool := (match ps[i]? with | some none => true | _ => false) && decide (0 < Cls.csz N)
theorem wants_none {ps : List (Option PM)} {N : Int} {i : Nat} (h : ps[i]? = some none) : wants ps N i = decide (0 < Cls.csz N) := by simp [wants, h]
theorem wants_some {ps : List (Option PM)} {N : Int} {i : Nat} {p : PM} (h : ps[i]? = some (some p)) : wants ps N i = false := by simp [wants, h]
theorem wants_true {ps : List (Option PM)} {N : Int} {i : Nat} (h : wants ps N i = true) : ps[i]? = some none ∧ 0 < Cls.csz N := by
  unfold wants at h
  rw [Bool.and_eq_true] at h
  refine ⟨?_, of_decide_eq_true h.2⟩
  have := h.1
  split at this
  · assumption
  · cases this
theorem wants_false {ps : List (Option PM)} {N : Int} {i : Nat} (h : wants ps N i = false) (hz : 0 < Cls.csz N) : ps[i]? ≠ some none := fun e => by
  rw [wants_none e] at h
  simp at h
  omega
/-- A free slot of a class: the first one. -/
structure Fnd (ps : List (Option PM)) (N : Int) (k s z : Nat) (p : PM) : Prop where
  hk : ps[k]? = some (some p)
  hc : p.c = N
  hF : Full ps N k
  hs : s < p.n
  hU : p.U.testBit s = false
  all : ∀ i, i < s → p.U.testBit i = true
  hz : Cls.csz N = (z : Int)
theorem Full.zero (ps : List (Option PM)) (N : Int) : Full ps N 0 := fun i hi => by omega
theorem Full.next {ps : List (Option PM)} {N : Int} {j : Nat} (h : Full ps N j) (hj : ∀ p, ps[j]? = some (some p) → p.c = N → ∀ s, s < p.n → p.U.testBit s = true) : Full ps N (j + 1) := fun i hi p hp hc => by
  by_cases e : i = j
  · subst e
    exact hj p hp hc
  · exact h i (by omega) p hp hc
/-- Classes: so many are none. -/
def fil (n k : Nat) : List Int := List.replicate k (-1) ++ List.replicate (n - k) 0
theorem fil_len {n k : Nat} (h : k ≤ n) : (fil n k).length = n := by
  unfold fil
  rw [List.length_append, List.length_replicate, List.length_replicate]
  omega
theorem fil_at {n k : Nat} (h : k < n) : (fil n k)[k]? = some 0 := by
  unfold fil
  rw [List.getElem?_append_right (by simp), List.length_replicate, Nat.sub_self, List.getElem?_replicate, if_pos (by omega)]
theorem fil_set {n k : Nat} (h : k < n) : (fil n k).set k (-1) = fil n (k + 1) := by
  apply List.ext_getElem?
  intro i
  by_cases e : k = i
  · subst e
    rw [List.getElem?_set_self (by rw [fil_len (by omega)]; exact h)]
    unfold fil
    rw [List.getElem?_append_left (by simp), List.getElem?_replicate, if_pos (by omega)]
  · rw [List.getElem?_set_ne e]
    unfold fil
    by_cases h2 : i < k
    · rw [List.getElem?_append_left (by simp; omega), List.getElem?_append_left (by simp; omega), List.getElem?_replicate, List.getElem?_replicate, if_pos h2, if_pos (by omega)]
    · rw [List.getElem?_append_right (by simp; omega), List.getElem?_append_right (by simp; omega), List.getElem?_replicate, List.getElem?_replicate, List.length_replicate, List.length_replicate]
      by_cases h3 : i < n
      · rw [if_pos (by omega), if_pos (by omega)]
      · rw [if_neg (by omega), if_neg (by omega)]
theorem fil_all (n : Nat) : fil n n = (List.replicate n (none : Option PM)).map cl := by
  unfold fil
  rw [Nat.sub_self, List.replicate_zero, List.append_nil, List.map_replicate]
  rfl
/-- The model as it is made: k classes are said to be none. -/
structure Mk (w2 : World) (n M k : Nat) (wx : World) (bm bc bu bw : Nat) : Prop where
  blk : Blk wx bm #[.slice (some ⟨bc, 0, none⟩) n n, .slice (some ⟨bu, 0, none⟩) n n, .slice (some ⟨bw, 0, none⟩) M M] 30
  cls : Blk wx bc (cells (fil n k)) 3
  row : Blk wx bu (urow (fun _ => 0) (List.replicate n none)) 43
  wrd : Blk wx bw (cells (List.replicate M 0)) 3
  nw : bc ≠ bw
  new : w2.heap.size ≤ bm ∧ w2.heap.size ≤ bc ∧ w2.heap.size ≤ bu ∧ w2.heap.size ≤ bw
  bel : Below w2.heap.size w2 wx
theorem Mk.next {w2 wx : World} {n M k bm bc bu bw : Nat} (h : Mk w2 n M k wx bm bc bu bw) (hk : k < n) : Mk w2 n M (k + 1) (wx.setCell ⟨bc, k, none⟩ (.int .i64 (-1))) bm bc bu bw := by
  have hK : Kept (fun j => j = bc) wx (wx.setCell ⟨bc, k, none⟩ (.int .i64 (-1))) := (Kept.refl (fun j => j = bc) wx).set (p := ⟨bc, k, none⟩) (.inl rfl) _
  refine ⟨hK.blk h.blk fun e => blk_ne h.blk h.cls (by decide) e, (h.cls.set k _).of_eq (by rw [cells_set, fil_set hk]), hK.blk h.row fun e => blk_ne h.row h.cls (by decide) e, hK.blk h.wrd fun e => h.nw e.symm, h.nw, h.new, h.bel.trans (hK.below h.bel.size fun i hi e => ?_)⟩
  have := h.new.2.1
  omega
theorem al4 (W : World) (c1 c2 c3 c4 : Array Value) (t1 t2 t3 t4 : TypeId) : Blk ((((W.alloc (.cells c1 t1)).alloc (.cells c2 t2)).alloc (.cells c3 t3)).alloc (.cells c4 t4)) W.heap.size c1 t1 ∧
    Blk ((((W.alloc (.cells c1 t1)).alloc (.cells c2 t2)).alloc (.cells c3 t3)).alloc (.cells c4 t4)) (W.heap.size + 1) c2 t2 ∧ Blk ((((W.alloc (.cells c1 t1)).alloc (.cells c2 t2)).alloc (.cells c3 t3)).alloc (.cells c4 t4)) (W.heap.size + 2) c3 t3 ∧
    Blk ((((W.alloc (.cells c1 t1)).alloc (.cells c2 t2)).alloc (.cells c3 t3)).alloc (.cells c4 t4)) (W.heap.size + 3) c4 t4 := by
  refine ⟨(((Blk.new W c1 t1).alloc _).alloc _).alloc _, ?_, ?_, ?_⟩
  · have := ((Blk.new (W.alloc (.cells c1 t1)) c2 t2).alloc (.cells c3 t3)).alloc (.cells c4 t4)
    rw [World.size_alloc] at this
    exact this
  · have := (Blk.new ((W.alloc (.cells c1 t1)).alloc (.cells c2 t2)) c3 t3).alloc (.cells c4 t4)
    rw [World.size_alloc, World.size_alloc] at this
    exact this
  · have := Blk.new (((W.alloc (.cells c1 t1)).alloc (.cells c2 t2)).alloc (.cells c3 t3)) c4 t4
    rw [World.size_alloc, World.size_alloc, World.size_alloc] at this
    exact this
theorem al4_below (W : World) (c1 c2 c3 c4 : Array Value) (t1 t2 t3 t4 : TypeId) : Below W.heap.size W ((((W.alloc (.cells c1 t1)).alloc (.cells c2 t2)).alloc (.cells c3 t3)).alloc (.cells c4 t4)) :=
  fresh_alloc (fresh_alloc (fresh_alloc (fresh_alloc (Below.refl _ _) _) _) _) _
theorem mk_CUW {w2 : World} {n M : Nat} {RC RU RW : Array Value} (hC : cells (fil n 0) = RC) (hU : urow (fun _ => 0) (List.replicate n none) = RU) (hW : cells (List.replicate M 0) = RW) (d : Nat) :
    Mk w2 n M 0 (((((w2.drewN d).alloc (.cells RC 3)).alloc (.cells RU 43)).alloc (.cells RW 3)).alloc (.cells #[.slice (some ⟨w2.heap.size, 0, none⟩) n n, .slice (some ⟨w2.heap.size + 1, 0, none⟩) n n, .slice (some ⟨w2.heap.size + 1 + 1, 0, none⟩) M M] 30)) (w2.heap.size + 1 + 1 + 1) (w2.heap.size) (w2.heap.size + 1) (w2.heap.size + 1 + 1) := by
  subst hC hU hW
  obtain ⟨h1, h2, h3, h4⟩ := al4 (w2.drewN d) _ _ _ #[.slice (some ⟨w2.heap.size, 0, none⟩) n n, .slice (some ⟨w2.heap.size + 1, 0, none⟩) n n, .slice (some ⟨w2.heap.size + 1 + 1, 0, none⟩) M M] 3 43 3 30
  exact ⟨h4, h1, h2, h3, by omega, ⟨by omega, by omega, by omega, by omega⟩, (below_drewN (Below.refl _ _) d).trans (al4_below (w2.drewN d) _ _ _ _ _ _ _ _)⟩
theorem mk_CWU {w2 : World} {n M : Nat} {RC RU RW : Array Value} (hC : cells (fil n 0) = RC) (hU : urow (fun _ => 0) (List.replicate n none) = RU) (hW : cells (List.replicate M 0) = RW) (d : Nat) :
    Mk w2 n M 0 (((((w2.drewN d).alloc (.cells RC 3)).alloc (.cells RW 3)).alloc (.cells RU 43)).alloc (.cells #[.slice (some ⟨w2.heap.size, 0, none⟩) n n, .slice (some ⟨w2.heap.size + 1 + 1, 0, none⟩) n n, .slice (some ⟨w2.heap.size + 1, 0, none⟩) M M] 30)) (w2.heap.size + 1 + 1 + 1) (w2.heap.size) (w2.heap.size + 1 + 1) (w2.heap.size + 1) := by
  subst hC hU hW
  obtain ⟨h1, h2, h3, h4⟩ := al4 (w2.drewN d) _ _ _ #[.slice (some ⟨w2.heap.size, 0, none⟩) n n, .slice (some ⟨w2.heap.size + 1 + 1, 0, none⟩) n n, .slice (some ⟨w2.heap.size + 1, 0, none⟩) M M] 3 3 43 30
  exact ⟨h4, h1, h3, h2, by omega, ⟨by omega, by omega, by omega, by omega⟩, (below_drewN (Below.refl _ _) d).trans (al4_below (w2.drewN d) _ _ _ _ _ _ _ _)⟩
theorem mk_UCW {w2 : World} {n M : Nat} {RC RU RW : Array Value} (hC : cells (fil n 0) = RC) (hU : urow (fun _ => 0) (List.replicate n none) = RU) (hW : cells (List.replicate M 0) = RW) (d : Nat) :
    Mk w2 n M 0 (((((w2.drewN d).alloc (.cells RU 43)).alloc (.cells RC 3)).alloc (.cells RW 3)).alloc (.cells #[.slice (some ⟨w2.heap.size + 1, 0, none⟩) n n, .slice (some ⟨w2.heap.size, 0, none⟩) n n, .slice (some ⟨w2.heap.size + 1 + 1, 0, none⟩) M M] 30)) (w2.heap.size + 1 + 1 + 1) (w2.heap.size + 1) (w2.heap.size) (w2.heap.size + 1 + 1) := by
  subst hC hU hW
  obtain ⟨h1, h2, h3, h4⟩ := al4 (w2.drewN d) _ _ _ #[.slice (some ⟨w2.heap.size + 1, 0, none⟩) n n, .slice (some ⟨w2.heap.size, 0, none⟩) n n, .slice (some ⟨w2.heap.size + 1 + 1, 0, none⟩) M M] 43 3 3 30
  exact ⟨h4, h2, h1, h3, by omega, ⟨by omega, by omega, by omega, by omega⟩, (below_drewN (Below.refl _ _) d).trans (al4_below (w2.drewN d) _ _ _ _ _ _ _ _)⟩
theorem mk_UWC {w2 : World} {n M : Nat} {RC RU RW : Array Value} (hC : cells (fil n 0) = RC) (hU : urow (fun _ => 0) (List.replicate n none) = RU) (hW : cells (List.replicate M 0) = RW) (d : Nat) :
    Mk w2 n M 0 (((((w2.drewN d).alloc (.cells RU 43)).alloc (.cells RW 3)).alloc (.cells RC 3)).alloc (.cells #[.slice (some ⟨w2.heap.size + 1 + 1, 0, none⟩) n n, .slice (some ⟨w2.heap.size, 0, none⟩) n n, .slice (some ⟨w2.heap.size + 1, 0, none⟩) M M] 30)) (w2.heap.size + 1 + 1 + 1) (w2.heap.size + 1 + 1) (w2.heap.size) (w2.heap.size + 1) := by
  subst hC hU hW
  obtain ⟨h1, h2, h3, h4⟩ := al4 (w2.drewN d) _ _ _ #[.slice (some ⟨w2.heap.size + 1 + 1, 0, none⟩) n n, .slice (some ⟨w2.heap.size, 0, none⟩) n n, .slice (some ⟨w2.heap.size + 1, 0, none⟩) M M] 43 3 3 30
  exact ⟨h4, h3, h1, h2, by omega, ⟨by omega, by omega, by omega, by omega⟩, (below_drewN (Below.refl _ _) d).trans (al4_below (w2.drewN d) _ _ _ _ _ _ _ _)⟩
theorem mk_WCU {w2 : World} {n M : Nat} {RC RU RW : Array Value} (hC : cells (fil n 0) = RC) (hU : urow (fun _ => 0) (List.replicate n none) = RU) (hW : cells (List.replicate M 0) = RW) (d : Nat) :
    Mk w2 n M 0 (((((w2.drewN d).alloc (.cells RW 3)).alloc (.cells RC 3)).alloc (.cells RU 43)).alloc (.cells #[.slice (some ⟨w2.heap.size + 1, 0, none⟩) n n, .slice (some ⟨w2.heap.size + 1 + 1, 0, none⟩) n n, .slice (some ⟨w2.heap.size, 0, none⟩) M M] 30)) (w2.heap.size + 1 + 1 + 1) (w2.heap.size + 1) (w2.heap.size + 1 + 1) (w2.heap.size) := by
  subst hC hU hW
  obtain ⟨h1, h2, h3, h4⟩ := al4 (w2.drewN d) _ _ _ #[.slice (some ⟨w2.heap.size + 1, 0, none⟩) n n, .slice (some ⟨w2.heap.size + 1 + 1, 0, none⟩) n n, .slice (some ⟨w2.heap.size, 0, none⟩) M M] 3 3 43 30
  exact ⟨h4, h2, h3, h1, by omega, ⟨by omega, by omega, by omega, by omega⟩, (below_drewN (Below.refl _ _) d).trans (al4_below (w2.drewN d) _ _ _ _ _ _ _ _)⟩
theorem mk_WUC {w2 : World} {n M : Nat} {RC RU RW : Array Value} (hC : cells (fil n 0) = RC) (hU : urow (fun _ => 0) (List.replicate n none) = RU) (hW : cells (List.replicate M 0) = RW) (d : Nat) :
    Mk w2 n M 0 (((((w2.drewN d).alloc (.cells RW 3)).alloc (.cells RU 43)).alloc (.cells RC 3)).alloc (.cells #[.slice (some ⟨w2.heap.size + 1 + 1, 0, none⟩) n n, .slice (some ⟨w2.heap.size + 1, 0, none⟩) n n, .slice (some ⟨w2.heap.size, 0, none⟩) M M] 30)) (w2.heap.size + 1 + 1 + 1) (w2.heap.size + 1 + 1) (w2.heap.size + 1) (w2.heap.size) := by
  subst hC hU hW
  obtain ⟨h1, h2, h3, h4⟩ := al4 (w2.drewN d) _ _ _ #[.slice (some ⟨w2.heap.size + 1 + 1, 0, none⟩) n n, .slice (some ⟨w2.heap.size + 1, 0, none⟩) n n, .slice (some ⟨w2.heap.size, 0, none⟩) M M] 3 43 3 30
  exact ⟨h4, h3, h2, h1, by omega, ⟨by omega, by omega, by omega, by omega⟩, (below_drewN (Below.refl _ _) d).trans (al4_below (w2.drewN d) _ _ _ _ _ _ _ _)⟩
theorem make_rows (n : Nat) (hn : n ≤ 64) (W : World) : (Instr.makeSlice 28 (.int .i64 n) (.int .i64 n)).run Tryd.prog W = .ok (.slice (some ⟨W.heap.size, 0, none⟩) n n) (W.alloc (.cells (urow (fun _ => 0) (List.replicate n none)) 43)) := by
  have := run_make_row' (P := Tryd.prog) 28 43 (.slice none 0 0) 24 Tryd.underlying28 (by kernel_rfl) rfl .i64 .i64 n (by omega) (by omega) W
  rw [show madeCells #[.slice none 0 0] n = urow (fun _ => 0) (List.replicate n none) from ?_] at this
  · exact this
  · apply Array.ext_getElem?
    intro j
    rw [urow_at, List.getElem?_replicate]
    by_cases h : j < n <;> simp [madeCells, h, Nat.mod_one, uv]
theorem make_bools (n : Nat) (hn : n ≤ 64) (W : World) : (Instr.makeSlice 43 (.int .i64 n) (.int .i64 n)).run Tryd.prog W = .ok (.slice (some ⟨W.heap.size, 0, none⟩) n n) (W.alloc (.cells (bcf n fun _ => false) 4)) := by
  have := run_make_row' (P := Tryd.prog) 43 4 (.bool false) 1 Tryd.underlying43 (by kernel_rfl) rfl .i64 .i64 n (by omega) (by omega) W
  rw [bcf_made] at this
  exact this
/-- The law's state at its beginning. -/
theorem AP.start {w w2 wr : World} {n b gp gw bm bc bu bw : Nat} (h2 : AW w w2 b gp gw (List.replicate n none) (List.replicate (32 * n) 0)) (h : Mk w2 n (32 * n) n wr bm bc bu bw) (hn : n ≤ 64) :
    AP w (wr.alloc (.cells #[.slice none 0 0, .slice none 0 0, .slice none 0 0, .slice none 0 0, .slice none 0 0, .slice none 0 0, .slice none 0 0, .slice none 0 0, .slice none 0 0, .slice none 0 0] 38)) ⟨b, gp, gw, bm, bc, bu, bw, wr.heap.size⟩ (fun _ => 0)
      (List.replicate n none) (List.replicate n none) (List.replicate (32 * n) 0) (List.replicate (32 * n) 0) (fun k => k = wr.heap.size) none := by
  have hx : ∀ (k : Nat) (p : PM), (List.replicate n (none : Option PM))[k]? = some (some p) → False := fun k p hk => by
    rw [List.getElem?_replicate] at hk
    split at hk <;> simp at hk
  have hs := h.bel.size
  have hs0 := h2.bel.size
  obtain ⟨m1, m2, m3, m4⟩ := h.new
  have hm : ∀ i, MF ⟨b, gp, gw, bm, bc, bu, bw, wr.heap.size⟩ (fun _ => 0) (List.replicate n none) i → w2.heap.size ≤ i ∧ i < wr.heap.size := by
    rintro i (e | e | e | e | ⟨k, p, hk, _⟩)
    · have := h.blk.lt
      dsimp only at e
      omega
    · have := h.cls.lt
      dsimp only at e
      omega
    · have := h.row.lt
      dsimp only at e
      omega
    · have := h.wrd.lt
      dsimp only at e
      omega
    · exact (hx k p hk).elim
  have ha : ∀ i, AF ⟨b, gp, gw, bm, bc, bu, bw, wr.heap.size⟩ (List.replicate n none) i → i < w2.heap.size := fun i e => h2.ar.lt e
  refine ⟨(h2.call (h.bel)).call (fresh_alloc (Below.refl _ _) _), ⟨?_, ?_, h.row.alloc _, h.wrd.alloc _, h.nw, by simpa using hn, by simp, fun k p hk => (hx k p hk).elim, fun j k p q hj => (hx j p hj).elim⟩, fun i e => by have := hm i e; omega, fun i e e2 => by have := hm i e2; have := ha i e; omega,
    Book.BookIn.new wr wr.heap.size (Nat.le_refl _), fun k e => by dsimp only at e ⊢; omega, by dsimp only; omega, fun i e e2 => by have := ha i e; omega, fun i e e2 => by have := hm i e; omega, fun a cs e => by cases e⟩
  · simp only [List.length_replicate]
    exact h.blk.alloc _
  · rw [← fil_all]
    exact h.cls.alloc _
/-- The model's page when one was grown: its class was set, then its row of slots made. -/
theorem AP.grown {w w9 w10 w11 : World} {X : ML} {gs : Nat → Nat} {ps : List (Option PM)} {ws vs : List Int} {S : Nat → Prop} {oo : Option (Nat × Array Value)} {k bp nn : Nat} {N : Int} {ps' : List (Option PM)}
    (h : AP w w9 X gs ps' ps ws vs S oo) (h0 : 0 < w.heap.size) (hk : ps[k]? = some none) (hc : Cls.csl N = (nn : Int)) (hn : 0 < nn) (hn2 : nn ≤ 32) (hK : Kept (fun i => i = X.bc) w9 w10)
    (hB : Blk w10 X.bc ((cells (ps.map cl)).setIfInBounds k (.int .i64 N)) 3) (hb : Below w10.heap.size w10 w11) :
    AP w ((w11.setCell ⟨X.bu, k, none⟩ (.slice (some ⟨w11.heap.size, 0, none⟩) nn nn)).alloc (.cells (bcf nn fun _ => false) 4)) X (fun i => if i = k then w11.heap.size else gs i) ps' (ps.set k (some ⟨bp, N, nn, 0, 0⟩)) ws vs S oo := by
  have hne : X.bc ≠ X.bu := blk_ne h.md.cls h.md.row (by decide)
  have hK1 : Kept (fun i => i = X.bc ∨ i = X.bu) w9 w11 := (hK.wide fun i _ e => .inl e).trans (Kept.of_below hb _)
  have hs := hK.size
  have hs2 := hb.size
  have hsz : (w11.setCell ⟨X.bu, k, none⟩ (.slice (some ⟨w11.heap.size, 0, none⟩) nn nn)).heap.size = w11.heap.size := by simp [World.setCell]
  refine h.cu h0 (p' := some ⟨bp, N, nn, 0, 0⟩) (g := w11.heap.size) ((hK1.set (p := ⟨X.bu, k, none⟩) (.inl (.inr rfl)) _).alloc _) ?_ ?_ ?_
  · have h1 : Blk (w11.setCell ⟨X.bu, k, none⟩ (.slice (some ⟨w11.heap.size, 0, none⟩) nn nn)) X.bc ((cells (ps.map cl)).setIfInBounds k (.int .i64 N)) 3 := (Below.heap_setCell _ _ _ _ (fun e => hne e)).trans (hB.call hb)
    exact h1.alloc _
  · exact ((((hK.blk h.md.row fun e => hne e.symm).call hb).set k _).alloc _)
  · rintro p e
    injection e with e
    subst e
    refine ⟨?_, hc, hn2, hn, fun i hi => ?_, by omega⟩
    · have h1 := Blk.new (w11.setCell ⟨X.bu, k, none⟩ (.slice (some ⟨w11.heap.size, 0, none⟩) nn nn)) (bcf nn fun _ => false) 4
      rw [hsz] at h1
      exact h1.of_eq (bcf_congr fun i _ => (Nat.zero_testBit i).symm)
    · dsimp only at hi
      rw [Nat.zero_testBit] at hi
      cases hi
/-- The model's page when one was dropped. -/
theorem AP.dropped1 {w w9 : World} {X : ML} {gs : Nat → Nat} {ps ps' : List (Option PM)} {ws vs : List Int} {S : Nat → Prop} {oo : Option (Nat × Array Value)} (h : AP w w9 X gs ps' ps ws vs S oo) (h0 : 0 < w.heap.size) (k : Nat) :
    AP w (((w9.setCell ⟨X.bc, k, none⟩ (.int .i64 (-1))).setCell ⟨X.bu, k, none⟩ (.slice none 0 0)).drew) X (fun i => if i = k then 0 else gs i) ps' (ps.set k none) ws vs S oo := by
  have hne : X.bc ≠ X.bu := blk_ne h.md.cls h.md.row (by decide)
  refine h.cu h0 (p' := none) (g := 0) ((((Kept.refl (fun i => i = X.bc ∨ i = X.bu) w9).set (p := ⟨X.bc, k, none⟩) (.inl (.inl rfl)) _).set (p := ⟨X.bu, k, none⟩) (.inl (.inr rfl)) _).drew) ?_ ?_ (fun p e => by cases e)
  · exact (Below.heap_setCell _ _ _ _ (fun e => hne e)).trans (h.md.cls.set k _)
  · exact Blk.set ((Below.heap_setCell _ _ _ _ (fun e => hne e.symm)).trans h.md.row) k _
theorem AP.dropped2 {w w9 : World} {X : ML} {gs : Nat → Nat} {ps ps' : List (Option PM)} {ws vs : List Int} {S : Nat → Prop} {oo : Option (Nat × Array Value)} (h : AP w w9 X gs ps' ps ws vs S oo) (h0 : 0 < w.heap.size) (k : Nat) :
    AP w (((w9.setCell ⟨X.bu, k, none⟩ (.slice none 0 0)).setCell ⟨X.bc, k, none⟩ (.int .i64 (-1))).drew) X (fun i => if i = k then 0 else gs i) ps' (ps.set k none) ws vs S oo := by
  have hne : X.bc ≠ X.bu := blk_ne h.md.cls h.md.row (by decide)
  refine h.cu h0 (p' := none) (g := 0) ((((Kept.refl (fun i => i = X.bc ∨ i = X.bu) w9).set (p := ⟨X.bu, k, none⟩) (.inl (.inr rfl)) _).set (p := ⟨X.bc, k, none⟩) (.inl (.inl rfl)) _).drew) ?_ ?_ (fun p e => by cases e)
  · exact Blk.set ((Below.heap_setCell _ _ _ _ (fun e => hne e)).trans h.md.cls) k _
  · exact (Below.heap_setCell _ _ _ _ (fun e => hne e.symm)).trans (h.md.row.set k _)
theorem taken_nil (c : Int) (w : World) : Calls Tryd.prog 10 #[.pointer none, .int .i64 c] w fun e w' => e = .returned (.tuple #[.int .i64 0, .bool false]) ∧ w = w' := by
  go_enter Tryd.func10, Tryd.ntmps10
  go_wp2_with fail
  go_ret2
  exact ⟨rfl, rfl⟩
/-- All begins of so many pages are few. -/
theorem allOf_bgs (ps : List (Option PM)) (j s U : Nat) (hj : j ≤ 8) (hs : s ≤ 32) : (allOf ps j ++ bgs ps j s U).length ≤ 288 := by
  have h1 := allOf_len ps j
  have h2 := Bit.sl_len s U.testBit
  unfold bgs
  rw [List.length_append, List.length_map]
  omega
/-- A page of the model has a class. -/
theorem MdlAt.c0 {w : World} {X : ML} {gs : Nat → Nat} {qs : List (Option PM)} {vs : List Int} (h : Md w X gs qs vs) {k : Nat} {p : PM} (hk : qs[k]? = some (some p)) : ∃ z : Nat, 0 ≤ p.c ∧ Cls.csz p.c = (z : Int) ∧ 0 < z ∧ z ≤ 16 ∧ p.n ≤ 32 ∧ 0 < p.n ∧ p.n * z ≤ 32 := by
  obtain ⟨_, h1, h2, h3, _⟩ := h.each k p hk
  rcases cls_nz p.c with ⟨e, _⟩ | ⟨n, z, e1, e2, e3, e4, e5, e6, e7, e8⟩
  · omega
  · obtain rfl : n = p.n := by omega
    refine ⟨z, e8, e2, e4, e6, h2, h3, ?_⟩
    rw [← e7]
    exact Nat.div_mul_le_self 32 z
end Go.Proofs.YtfgpadkoonogpaaDoor.Ar
