/- Package ask: the table of step: a map with arrays as keys, its entries put in in whatever order. -/
import Derived.Test.YtpdleckflcangaaProg
import Derived.Test.YtpdleckflcangaaExt
import Derived.DeepKeys5
import Derived.Maps.Own
import Derived.MapKept
import Derived.Deep.RegionLaw
namespace Go.Proofs.Ytpdleckflcangaa.Ask
open Go.RowKit Go.Maps
open Go.ChangeMaps (setBlock)
set_option linter.unusedSimpArgs false
set_option linter.unusedVariables false

theorem laidOut : laidOutB Try.prog = true := by kernel_rfl
theorem keyT : Try.prog.keyType 79 = true := by kernel_rfl
theorem keys : Keyed Try.prog 79 := Keyed.of_law (deep_law_gate laidOut (by decide) (by decide) keyT (by rw [Try.underlying79]))
/-- An array of two integers. -/
def key (a b : Int) : Value := .agg #[.int .i64 a, .int .i64 b]
theorem size_form : ∃ d, Try.prog.types.size + 1 = d + 1 + 1 := by
  have h : 0 < Try.prog.types.size := by decide
  exact ⟨Try.prog.types.size - 1, by omega⟩
theorem keyOf_key {a b : Int} (ha : (Lit.int .i64 a).wf = true) (hb : (Lit.int .i64 b).wf = true) : ∃ l, keyOf Try.prog 79 (key a b) = some l := by
  have h1 : Try.prog.cellsOf 79 = 2 := by kernel_rfl
  have h2 : Try.prog.cellsOf 3 = 1 := by kernel_rfl
  obtain ⟨d, hd⟩ := size_form
  have hu := Try.underlying79
  have hf : (key a b).formed Try.prog 79 = true := by simp [Value.formed, key, hu, h1]
  refine ⟨.string (keyBytes [.int .i64 a, .int .i64 b]), ?_⟩
  unfold keyOf
  rw [hu]
  dsimp only
  rw [keyT, hf, hd]
  simp [Program.keyLits, hu, Try.underlying3, h1, h2, key, ha, hb, Value.cells, List.range, List.range.loop]
theorem key_inj {a b c d : Int} (h : key a b = key c d) : a = c ∧ b = d := by
  simp [key] at h
  exact h

/-- The map's entries are just these. -/
def MapIs (es : Array MapEntry) (S : Int × Int × Int → Prop) : Prop :=
  (∀ e ∈ es.toList, ∃ q, S q ∧ e.key = key q.1 q.2.1 ∧ e.val = .int .i64 q.2.2) ∧ (∀ q, S q → ∃ e ∈ es.toList, e.key = key q.1 q.2.1)
def Wf (S : Int × Int × Int → Prop) : Prop := ∀ q, S q → (Lit.int .i64 q.1).wf = true ∧ (Lit.int .i64 q.2.1).wf = true
theorem MapIs.keyed {es : Array MapEntry} {S : Int × Int × Int → Prop} (h : MapIs es S) (hw : Wf S) : ∀ e ∈ es.toList, ∃ l, keyOf Try.prog 79 e.key = some l := by
  intro e he
  obtain ⟨q, hq, hk, _⟩ := h.1 e he
  rw [hk]
  exact keyOf_key (hw q hq).1 (hw q hq).2

theorem run_put {w : World} {r : Nat} {es : Array MapEntry} {clk : Nat} {S : Int × Int × Int → Prop} (hb : w.heap[r]? = some (.map es clk)) (hm : MapIs es S) (hw : Wf S) {a b v : Int} (ha : (Lit.int .i64 a).wf = true) (hbw : (Lit.int .i64 b).wf = true)
    (hnew : ∀ q, S q → ¬ (q.1 = a ∧ q.2.1 = b)) :
    (Instr.mapUpdate 80 (.map (some r)) (key a b) (.int .i64 v)).run Try.prog w = .ok () (setBlock w r (.map (es.push ⟨key a b, .int .i64 v, clk⟩) (clk + 1))) ∧ MapIs (es.push ⟨key a b, .int .i64 v, clk⟩) (fun q => S q ∨ q = (a, b, v)) := by
  obtain ⟨l, hl⟩ := keyOf_key ha hbw
  rcases keys.find w hl es.toList (hm.keyed hw) with ⟨h1, h2⟩ | ⟨j, e0, h1, h2, h3⟩
  · refine ⟨by simp [Instr.mapUpdate, run_underlying Try.underlying80, MapKept.run_getObj_map hb, keys.check w false hl, h1, MapKept.run_setObj_map _ hb, Result.andThen, setBlock], ?_, ?_⟩
    · intro e he
      simp only [Array.toList_push, List.mem_append, List.mem_singleton] at he
      rcases he with he | rfl
      · obtain ⟨q, hq, hk⟩ := hm.1 e he
        exact ⟨q, .inl hq, hk⟩
      · exact ⟨(a, b, v), .inr rfl, rfl, rfl⟩
    · rintro q (hq | rfl)
      · obtain ⟨e, he, hk⟩ := hm.2 q hq
        exact ⟨e, by simp [he], hk⟩
      · exact ⟨⟨key a b, .int .i64 v, clk⟩, by simp, rfl⟩
  · obtain ⟨q, hq, hk, _⟩ := hm.1 e0 (List.mem_of_getElem? h2)
    rw [h3] at hk
    have := key_inj hk
    exact absurd ⟨this.1.symm, this.2.symm⟩ (hnew q hq)

theorem run_look {w : World} {r : Nat} {es : Array MapEntry} {clk : Nat} {S : Int × Int × Int → Prop} (hb : w.heap[r]? = some (.map es clk)) (hm : MapIs es S) (hw : Wf S) {a b : Int} (ha : (Lit.int .i64 a).wf = true) (hbw : (Lit.int .i64 b).wf = true) (out : Option Int)
    (hout : ∀ v, S (a, b, v) → out = some v) (hno : (∀ v, ¬ S (a, b, v)) → out = none) :
    (Instr.lookup 80 (.map (some r)) (key a b) true).run Try.prog w = .ok (.tuple #[.int .i64 (out.getD 0), .bool out.isSome]) w := by
  obtain ⟨l, hl⟩ := keyOf_key ha hbw
  have hz : (zeroValue 3).run Try.prog w = .ok (.int .i64 0) w := by kernel_rfl
  rcases keys.find w hl es.toList (hm.keyed hw) with ⟨h1, h2⟩ | ⟨j, e0, h1, h2, h3⟩
  · have : out = none := hno fun v hv => by
      obtain ⟨e, he, hk⟩ := hm.2 _ hv
      exact h2 e he hk
    subst this
    simp [Instr.lookup, run_underlying Try.underlying80, MapKept.run_getObj_map hb, keys.check w _ hl, h1, hz, Result.andThen]
  · obtain ⟨q, hq, hk, hv⟩ := hm.1 e0 (List.mem_of_getElem? h2)
    rw [h3] at hk
    obtain ⟨e1, e2⟩ := key_inj hk
    have : out = some q.2.2 := hout _ (by rw [e1, e2]; exact hq)
    subst this
    simp [Instr.lookup, run_underlying Try.underlying80, MapKept.run_getObj_map hb, keys.check w _ hl, h1, hv, Result.andThen]

/-! ### The region that puts the entries in, in whatever order -/
/-- The entries of the table. -/
def ent : Nat → Int × Int × Int
  | 0 => (0, 0, 1)
  | 1 => (1, 1, 2)
  | 2 => (1, 2, 3)
  | 3 => (2, 3, 0)
  | _ => (3, 3, 0)
def subs : List Nat → List (List Nat)
  | [] => [[]]
  | x :: r => (subs r).flatMap fun s => [s, x :: s]
def all5 : List Nat := [0, 1, 2, 3, 4]
/-- What has come up: all that stands ahead of the entries, and those entries that are not left. -/
def lst (rem : List Nat) : Array Bool := #[true, true, !rem.contains 0, true, !rem.contains 1, true, !rem.contains 2, true, !rem.contains 3, true, !rem.contains 4, false, false]
def chk (ops : Array Oper) : Bool :=
  (subs all5).all fun rem => (rem.isEmpty || (Region.ready .any ops (lst rem) == rem.map fun p => 2 * p + 2)) &&
    rem.all fun p => (lst rem).setIfInBounds (2 * p + 2) true == lst (rem.filter fun x => x != p) && (subs all5).contains (rem.filter fun x => x != p) && (rem.filter fun x => x != p).length + 1 == rem.length
/-- The entries that are in. -/
def In (rem : List Nat) (q : Int × Int × Int) : Prop := ∃ p, p < 5 ∧ p ∉ rem ∧ q = ent p
theorem ent_wf (p : Nat) : (Lit.int .i64 (ent p).1).wf = true ∧ (Lit.int .i64 (ent p).2.1).wf = true := by
  unfold ent
  split <;> decide
theorem ent_apart {p p' : Nat} (h : p < 5) (h' : p' < 5) (hne : p ≠ p') : ¬ ((ent p).1 = (ent p').1 ∧ (ent p).2.1 = (ent p').2.1) := by
  have : ∀ a b : Fin 5, a ≠ b → ¬ ((ent a).1 = (ent b).1 ∧ (ent a).2.1 = (ent b).2.1) := by decide
  exact this ⟨p, h⟩ ⟨p', h'⟩ (fun e => hne (by injection e))
theorem in_wf (rem : List Nat) : Wf (In rem) := fun q ⟨p, _, _, e⟩ => e ▸ ent_wf p
theorem subs_lt {rem : List Nat} (h : rem ∈ subs all5) {p : Nat} (hp : p ∈ rem) : p < 5 := by
  have : ∀ s ∈ subs all5, ∀ x ∈ s, x < 5 := by decide
  exact this rem h p hp

theorem inserts {ops : Array Oper} {Q : Exit → Act → World → Prop} {a : Act} {r : Nat} {W : World} (hc : chk ops = true)
    (hops : ∀ p : Nat, p < 5 → ∃ o, ops[2 * p + 2]? = some o ∧ o.guard = none ∧ o.dst = none ∧ o.op = .insert 80 (.tmp 9) (.tmp (10 + p)) (.const (.int .i64 (ent p).2.2)))
    (h9 : a.eval (.tmp 9) = .map (some r)) (hk : ∀ p : Nat, p < 5 → a.eval (.tmp (10 + p)) = key (ent p).1 (ent p).2.1)
    (hfin : ∀ es clk w, w.heap[r]? = some (.map es clk) → Below r W w → MapIs es (In []) → wpAny Try.prog .any ops Q 2 (lst []) a w) :
    ∀ (n : Nat) (rem : List Nat), rem ∈ subs all5 → rem.length = n → ∀ es clk w, w.heap[r]? = some (.map es clk) → Below r W w → MapIs es (In rem) → wpAny Try.prog .any ops Q (n + 2) (lst rem) a w := by
  intro n
  induction n with
  | zero =>
    intro rem hrem hl es clk w hb hw hm
    obtain rfl : rem = [] := List.eq_nil_of_length_eq_zero hl
    exact hfin es clk w hb hw hm
  | succ n ih =>
    intro rem hrem hl es clk w hb hw hm
    have hce := List.all_eq_true.1 hc rem hrem
    simp only [Bool.and_eq_true, Bool.or_eq_true, List.isEmpty_iff, beq_iff_eq, List.all_eq_true, List.contains_iff_mem] at hce
    obtain ⟨hr, hs⟩ := hce
    have hne : rem ≠ [] := by intro e; subst e; simp at hl
    have hready := hr.resolve_left hne
    refine ⟨fun h0 => ?_, fun i hi => ?_⟩
    · rw [hready] at h0
      exact absurd (List.map_eq_nil_iff.1 h0) hne
    · rw [hready] at hi
      obtain ⟨p, hp, rfl⟩ := List.mem_map.1 hi
      obtain ⟨⟨hset, hmem⟩, hlen⟩ := hs p hp
      have hp5 := subs_lt hrem hp
      obtain ⟨o, ho, hg, hd, hop⟩ := hops p hp5
      have hnew : ∀ q, In rem q → ¬ (q.1 = (ent p).1 ∧ q.2.1 = (ent p).2.1) := by
        rintro q ⟨p', h1, h2, rfl⟩
        exact ent_apart h1 hp5 (fun e => h2 (e ▸ hp))
      obtain ⟨hrun, hmap⟩ := run_put (v := (ent p).2.2) hb hm (in_wf rem) (ent_wf p).1 (ent_wf p).2 hnew
      have hwant : Region.wanted o (yielded ops a.tmps) = true := by simp [Region.wanted, hg]
      unfold wpOp
      simp only [ho, hwant, if_true]
      refine .inl ?_
      unfold Oper.wp
      have hex : (execOp a.eval o).run Try.prog w = .ok .skip (setBlock w r (.map (es.push ⟨key (ent p).1 (ent p).2.1, .int .i64 (ent p).2.2, clk⟩) (clk + 1))) := by
        have h3 : a.eval (.const (.int .i64 (ent p).2.2)) = .int .i64 (ent p).2.2 := rfl
        simp [execOp, hop, h9, hk p hp5, h3, hrun, Result.andThen]
      rw [hex]
      show wpAny _ _ _ _ _ _ _ _
      rw [hset, hd]
      have hrl : r < w.heap.size := (Array.getElem?_eq_some_iff.1 hb).1
      refine ih _ hmem (by omega) (es.push ⟨key (ent p).1 (ent p).2.1, .int .i64 (ent p).2.2, clk⟩) (clk + 1) _ (by simp [setBlock, hrl]) ?_ ?_
      · refine ⟨hw.os, hw.tape, hw.output, by simpa [setBlock] using hw.size, fun i hi => ?_⟩
        rw [← hw.block i hi]
        simp [setBlock, Array.getElem?_setIfInBounds, show r ≠ i by omega]
      · have heq : (fun q => In rem q ∨ q = ((ent p).1, (ent p).2.1, (ent p).2.2)) = In (rem.filter fun x => x != p) := by
          funext q
          apply propext
          constructor
          · rintro (⟨p', h1, h2, rfl⟩ | rfl)
            · exact ⟨p', h1, fun x => h2 ((List.mem_filter.1 x).1), rfl⟩
            · exact ⟨p, hp5, fun x => by simp at x, rfl⟩
          · rintro ⟨p', h1, h2, rfl⟩
            by_cases he : p' = p
            · exact .inr (by rw [he])
            · exact .inl ⟨p', h1, fun x => h2 (by simp [x, he]), rfl⟩
        rw [← heq]
        exact hmap
end Go.Proofs.Ytpdleckflcangaa.Ask
