/- The calls of the arena's plays, told of the law's state. -/
import Derived.Test.YtfgpadkoonogpaaDoorAp
namespace Go.Proofs.YtfgpadkoonogpaaDoor.Ar
open Go.RowKit Pg
set_option linter.unusedSimpArgs false
set_option linter.unusedVariables false

/-- A class's slots and size. -/
theorem cls_nz (c : Int) : (Cls.csl c = 0 ∧ Cls.csz c = 0) ∨ ∃ n z : Nat, Cls.csl c = (n : Int) ∧ Cls.csz c = (z : Int) ∧ 0 < n ∧ 0 < z ∧ n ≤ 32 ∧ z ≤ 16 ∧ 32 / z = n ∧ 0 ≤ c := by
  rcases Cls.csz_cases c with h | h | rfl | rfl | rfl | rfl | rfl | rfl | rfl | rfl
  · exact .inl ⟨Cls.csl_out (.inl h), Cls.csz_out (.inl h)⟩
  · exact .inl ⟨Cls.csl_out (.inr h), Cls.csz_out (.inr h)⟩
  · exact .inr ⟨32, 1, by decide, by decide, by decide, by decide, by decide, by decide, by decide, by decide⟩
  · exact .inr ⟨16, 2, by decide, by decide, by decide, by decide, by decide, by decide, by decide, by decide⟩
  · exact .inr ⟨10, 3, by decide, by decide, by decide, by decide, by decide, by decide, by decide, by decide⟩
  · exact .inr ⟨8, 4, by decide, by decide, by decide, by decide, by decide, by decide, by decide, by decide⟩
  · exact .inr ⟨5, 6, by decide, by decide, by decide, by decide, by decide, by decide, by decide, by decide⟩
  · exact .inr ⟨4, 8, by decide, by decide, by decide, by decide, by decide, by decide, by decide, by decide⟩
  · exact .inr ⟨2, 12, by decide, by decide, by decide, by decide, by decide, by decide, by decide, by decide⟩
  · exact .inr ⟨2, 16, by decide, by decide, by decide, by decide, by decide, by decide, by decide, by decide⟩
namespace AP
variable {w wr w' : World} {X : ML} {gs gs' : Nat → Nat} {ps qs ps' qs' : List (Option PM)} {ws vs ws' vs' : List Int} {S : Nat → Prop} {oo : Option (Nat × Array Value)}
theorem grow_no (h : AP w wr X gs ps qs ws vs S oo) (N : Int) (hF : Cls.csl N = 0 ∨ ∀ i : Nat, ps[i]? ≠ some none) :
    Calls Tryd.prog 9 #[.pointer (some ⟨X.b, 0, none⟩), .int .i64 N] wr fun e w' => e = .returned (.bool false) ∧ AP w w' X gs ps qs ws vs S oo := by
  rcases cls_nz N with ⟨h1, _⟩ | ⟨n, z, h1, _, h2, _⟩
  · refine (grow_bad _ N wr h1).mono ?_
    rintro e w' ⟨rfl, rfl⟩
    exact ⟨rfl, h⟩
  · refine (grow_any X.b X.gp X.gw ps ws N n wr h.aw.ar h1 h2).mono fun e w' hg => ?_
    obtain ⟨rfl, hb⟩ := grew_no hg fun i => by
      rcases hF with e | e
      · omega
      · exact e i
    exact ⟨rfl, h.call hb⟩
theorem grow_is (h : AP w wr X gs ps qs ws vs S oo) (h0 : 0 < w.heap.size) (N : Int) {k n : Nat} (hk : ps[k]? = some none) (hF : ∀ i : Nat, i < k → ps[i]? ≠ some none) (hn : Cls.csl N = (n : Int)) (hn0 : 0 < n) :
    Calls Tryd.prog 9 #[.pointer (some ⟨X.b, 0, none⟩), .int .i64 N] wr fun e w' => e = .returned (.bool true) ∧ ∃ bp, AP w w' X gs (ps.set k (some ⟨bp, N, n, 0, 0⟩)) qs ws vs S oo := by
  refine (grow_any X.b X.gp X.gw ps ws N n wr h.aw.ar hn hn0).mono fun e w' hg => ?_
  obtain ⟨rfl, bp, hbp, ha, hkp⟩ := grew_is hg hk hF
  refine ⟨rfl, bp, h.arn h0 ha hkp (fun i e => .inr (.inl e)) fun i e => ?_⟩
  rcases af_new e with e | e
  · exact .inl e
  · exact .inr (by rw [e]; exact hbp)
theorem take_no (h : AP w wr X gs ps qs ws vs S oo) (h0 : 0 < w.heap.size) (N : Int) (hF : Full ps N ps.length) :
    Calls Tryd.prog 10 #[.pointer (some ⟨X.b, 0, none⟩), .int .i64 N] wr fun e w' => e = .returned (.tuple #[.int .i64 0, .bool false]) ∧ AP w w' X gs ps qs ws vs S oo := by
  refine (take_any X.b X.gp X.gw ps ws N wr h.aw.ar h.aw.tab (h.aw.foot0 h0)).mono fun e w' hg => ?_
  obtain ⟨rfl, rfl⟩ := took_no hg hF
  exact ⟨rfl, h⟩
theorem take_is (h : AP w wr X gs ps qs ws vs S oo) (h0 : 0 < w.heap.size) {k s z : Nat} {p : PM} (hk : ps[k]? = some (some p)) (hF : Full ps p.c k) (hs : s < p.n) (hU : p.U.testBit s = false) (hall : ∀ i, i < s → p.U.testBit i = true) (hz : Cls.csz p.c = (z : Int)) :
    Calls Tryd.prog 10 #[.pointer (some ⟨X.b, 0, none⟩), .int .i64 p.c] wr fun e w' => e = .returned (.tuple #[.int .i64 (1048576 + 32 * k + s * z : Nat), .bool true]) ∧ AP w w' X gs (ps.set k (some ⟨p.b, p.c, p.n, ins p.U s, del p.M s⟩)) qs (clr ws (32 * k + s * z) z) vs S oo := by
  refine (take_any X.b X.gp X.gw ps ws p.c wr h.aw.ar h.aw.tab (h.aw.foot0 h0)).mono fun e w' hg => ?_
  obtain ⟨rfl, ha, hkp⟩ := took_is hg hk rfl hF hs hU hall hz
  refine ⟨rfl, h.arn h0 ha hkp (fun i e => ?_) fun i e => .inl (af_put hk (fun x e => by injection e with e; subst e; rfl) e)⟩
  rcases e with rfl | rfl
  · exact .inr (.inr (.inr ⟨k, p, hk, rfl⟩))
  · exact .inr (.inr (.inl rfl))
theorem free_no_ (h : AP w wr X gs ps qs ws vs S oo) (N : Int) (hN : N ≤ 9223372036854775807) (hs : ∀ k p s, slot ps N = some (k, p, s) → base ps k s ≠ N) :
    Calls Tryd.prog 12 #[.pointer (some ⟨X.b, 0, none⟩), .int .i64 N] wr fun e w' => e = .returned (.bool false) ∧ AP w w' X gs ps qs ws vs S oo := by
  refine (free_no X.b X.gp X.gw ps ws N wr h.aw.ar hN hs).mono ?_
  rintro e w' ⟨rfl, d, rfl⟩
  exact ⟨rfl, h.call (below_drewN (Below.refl _ _) d)⟩
theorem free_is (h : AP w wr X gs ps qs ws vs S oo) (h0 : 0 < w.heap.size) (N : Int) (hN : N ≤ 9223372036854775807) {k s : Nat} {p : PM} (hs : slot ps N = some (k, p, s)) (hb : base ps k s = N) :
    Calls Tryd.prog 12 #[.pointer (some ⟨X.b, 0, none⟩), .int .i64 N] wr fun e w' => e = .returned (.bool true) ∧ AP w w' X gs (ps.set k (some ⟨p.b, p.c, p.n, del p.U s, del p.M s⟩)) qs ws vs S oo := by
  refine (free_yes X.b X.gp X.gw ps ws N k p s wr h.aw.ar hN hs hb).mono ?_
  rintro e w' ⟨rfl, ha, hkp⟩
  have hk := (slot_some h.aw.ar hs).1
  exact ⟨rfl, h.arn h0 ha hkp (fun i e => .inr (.inr (.inr ⟨k, p, hk, e.symm⟩))) fun i e => .inl (af_put hk (fun x e => by injection e with e; subst e; rfl) e)⟩
theorem store_no_ (h : AP w wr X gs ps qs ws vs S oo) (N V : Int) (hN : N ≤ 9223372036854775807) (hs : slot ps N = none) :
    Calls Tryd.prog 13 #[.pointer (some ⟨X.b, 0, none⟩), .int .i64 N, .int .i64 V] wr fun e w' => e = .returned (.bool false) ∧ AP w w' X gs ps qs ws vs S oo := by
  refine (store_no X.b X.gp X.gw ps ws N V wr h.aw.ar hN hs).mono ?_
  rintro e w' ⟨rfl, d, rfl⟩
  exact ⟨rfl, h.call (below_drewN (Below.refl _ _) d)⟩
theorem store_is (h : AP w wr X gs ps qs ws vs S oo) (h0 : 0 < w.heap.size) (N V : Int) (hN : N ≤ 9223372036854775807) (hs : (slot ps N).isSome = true) :
    Calls Tryd.prog 13 #[.pointer (some ⟨X.b, 0, none⟩), .int .i64 N, .int .i64 V] wr fun e w' => e = .returned (.bool true) ∧ AP w w' X gs ps qs (ws.set (N - 1048576).toNat V) vs S oo := by
  refine (store_yes X.b X.gp X.gw ps ws N V wr h.aw.ar hN hs).mono ?_
  rintro e w' ⟨rfl, ha, hkp⟩
  exact ⟨rfl, h.arn h0 ha hkp (fun i e => .inr (.inr (.inl e))) fun i e => .inl e⟩
theorem drop_no_ (h : AP w wr X gs ps qs ws vs S oo) (N : Int) (hk : ∀ p, get ps N = some p → 0 < (Bit.bl p.U).length) :
    Calls Tryd.prog 14 #[.pointer (some ⟨X.b, 0, none⟩), .int .i64 N] wr fun e w' => e = .returned (.bool false) ∧ AP w w' X gs ps qs ws vs S oo := by
  refine (drop_no X.b X.gp X.gw ps ws N wr h.aw.ar hk).mono ?_
  rintro e w' ⟨rfl, d, rfl⟩
  exact ⟨rfl, h.call (below_drewN (Below.refl _ _) d)⟩
theorem drop_is (h : AP w wr X gs ps qs ws vs S oo) (h0 : 0 < w.heap.size) {k : Nat} {p : PM} (hk : ps[k]? = some (some p)) (hU : (Bit.bl p.U).length = 0) :
    Calls Tryd.prog 14 #[.pointer (some ⟨X.b, 0, none⟩), .int .i64 k] wr fun e w' => e = .returned (.bool true) ∧ AP w w' X gs (ps.set k none) qs ws vs S oo := by
  refine (drop_yes X.b X.gp X.gw ps ws k p wr h.aw.ar hk hU).mono ?_
  rintro e w' ⟨rfl, ha, hkp⟩
  exact ⟨rfl, h.arn h0 ha hkp (fun i e => .inr (.inl e)) fun i e => .inl (af_put hk (fun x e => by cases e) e)⟩
theorem slot_ (h : AP w wr X gs ps qs ws vs S oo) (N : Int) (hN : -9223372036854775808 ≤ N ∧ N ≤ 9223372036854775807) :
    Calls Tryd.prog 11 #[.pointer (some ⟨X.bm, 0, none⟩), .int .i64 N] wr fun e w' => e = ans qs N ∧ AP w w' X gs ps qs ws vs S oo := by
  refine (slot_m_any X.bm X.bc X.bu X.bw gs qs vs N wr h.md hN).mono ?_
  rintro e w' ⟨rfl, hb⟩
  exact ⟨rfl, h.call hb⟩
/-- The model: a page is put in, or taken out. -/
theorem cu (h : AP w wr X gs ps qs ws vs S oo) (h0 : 0 < w.heap.size) {k : Nat} {p' : Option PM} {g : Nat} (hK : Kept (fun i => i = X.bc ∨ i = X.bu) wr w')
    (h1 : Blk w' X.bc ((cells (qs.map cl)).setIfInBounds k (.int .i64 (cl p'))) 3) (h2 : Blk w' X.bu ((urow gs qs).setIfInBounds k (uv g p')) 43)
    (hp : ∀ p, p' = some p → Blk w' g (bcf p.n p.U.testBit) 4 ∧ Cls.csl p.c = (p.n : Int) ∧ p.n ≤ 32 ∧ 0 < p.n ∧ (∀ i, p.U.testBit i = true → i < p.n) ∧ wr.heap.size ≤ g) :
    AP w w' X (fun i => if i = k then g else gs i) ps (qs.set k p') ws vs S oo := by
  refine h.mdl h0 (h.md.cu hK h1 h2 fun p e => ?_) hK (fun i e => ?_) fun i e => ?_
  · obtain ⟨g1, g2, g3, g4, g5, g6⟩ := hp p e
    refine ⟨g1, g2, g3, g4, g5, fun j q hj e => ?_⟩
    have := (h.md.each j q hj).1.lt
    omega
  · rcases e with e | e
    · exact .inr (.inl e)
    · exact .inr (.inr (.inl e))
  · rcases mf_cu e with e | ⟨⟨p, e1⟩, e2⟩
    · exact .inl e
    · exact .inr (by have := (hp p e1).2.2.2.2.2; omega)
/-- The model: a slot is said to be used, or free. -/
theorem put (h : AP w wr X gs ps qs ws vs S oo) (h0 : 0 < w.heap.size) {k s : Nat} {p : PM} {x : Bool} {U' : Nat} (M' : Nat) (hk : qs[k]? = some (some p)) (hs : s < p.n) (hU : ∀ i, U'.testBit i = if i = s then x else p.U.testBit i) :
    AP w (wr.setCell ⟨gs k, s, none⟩ (.bool x)) X gs ps (qs.set k (some ⟨p.b, p.c, p.n, U', M'⟩)) ws vs S oo :=
  h.mdl h0 (h.md.put hk hs hU) ((Kept.refl (fun i => i = gs k) wr).set (p := ⟨gs k, s, none⟩) (.inl rfl) _) (fun i e => .inr (.inr (.inr (.inr ⟨k, p, hk, e.symm⟩)))) fun i e => .inl (mf_put hk e)
/-- The model: a word is set. -/
theorem word (h : AP w wr X gs ps qs ws vs S oo) (h0 : 0 < w.heap.size) (i : Nat) (v : Int) : AP w (wr.setCell ⟨X.bw, i, none⟩ (.int .i64 v)) X gs ps qs ws (vs.set i v) S oo :=
  h.mdl h0 (h.md.word i v) ((Kept.refl (fun j => j = X.bw) wr).set (p := ⟨X.bw, i, none⟩) (.inl rfl) _) (fun i e => .inr (.inr (.inr (.inl e)))) fun i e => .inl e
end AP
/-- No page is used: as its list. -/
theorem bl_none {U n : Nat} (hU : ∀ i, U.testBit i = true → i < n) (hn : n ≤ 32) : (Bit.bl U).length = 0 ↔ ∀ s, s < n → U.testBit s = false := by
  constructor
  · intro h s hs
    rcases hb : U.testBit s with _ | _
    · rfl
    · have : s ∈ Bit.bl U := Bit.sl_mem.2 ⟨by omega, hb⟩
      rw [List.length_eq_zero_iff.1 h] at this
      cases this
  · intro h
    rw [List.length_eq_zero_iff]
    exact Bit.sl_nil fun i hi => by
      rcases hb : U.testBit i with _ | _
      · rfl
      · have h1 := hU i hb
        rw [h i h1] at hb
        cases hb
/-- One more word is cleared. -/
theorem clr_next (ws : List Int) (o n : Nat) : (clr ws o n).set (o + n) 0 = clr ws o (n + 1) := by
  apply List.ext_getElem?
  intro i
  rw [clr_get]
  by_cases e : o + n = i
  · subst e
    by_cases h : o + n < ws.length
    · rw [List.getElem?_set_self (by rw [clr_len]; exact h), if_pos ⟨by omega, by omega, h⟩]
    · rw [if_neg (by omega), List.getElem?_eq_none (by rw [List.length_set, clr_len]; omega), List.getElem?_eq_none (by omega)]
  · rw [List.getElem?_set_ne e, clr_get]
    by_cases h : o ≤ i ∧ i < o + n ∧ i < ws.length
    · rw [if_pos h, if_pos ⟨h.1, by omega, h.2.2⟩]
    · rw [if_neg h, if_neg (by omega)]
/-- The begins of the used slots of a page, those below one. -/
def bgs (ps : List (Option PM)) (k s : Nat) (U : Nat) : List Int := (Bit.sl s U.testBit).map fun (i : Nat) => base ps k (i : Int)
theorem bgs_succ (ps : List (Option PM)) (k s U : Nat) : bgs ps k (s + 1) U = bgs ps k s U ++ if U.testBit s then [base ps k (s : Int)] else [] := by
  unfold bgs
  rw [Bit.sl_succ, List.map_append]
  congr 1
  cases h : U.testBit s <;> simp [h]
theorem bgs_all {ps : List (Option PM)} {k : Nat} {p : PM} (hk : ps[k]? = some (some p)) (hU : ∀ i, p.U.testBit i = true → i < p.n) (hn : p.n ≤ 32) : bgs ps k p.n p.U = begins ps k := by
  rw [begins_lst hk]
  unfold bgs lst Bit.bl
  dsimp only
  rw [Bit.sl_short hn fun i hi => by
    rcases hb : p.U.testBit i with _ | _
    · rfl
    · have := hU i hb
      omega]
theorem begins_none {ps : List (Option PM)} {k : Nat} (hk : ps[k]? = some none) : begins ps k = [] := by
  rw [begins_lst hk]
  rfl
end Go.Proofs.YtfgpadkoonogpaaDoor.Ar
