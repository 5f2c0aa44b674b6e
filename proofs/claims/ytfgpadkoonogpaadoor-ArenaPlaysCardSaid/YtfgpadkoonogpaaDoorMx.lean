/- A loop, and a cut, over a great frame: the slots that are forgotten are what one function says (not a letter each). Over any program. -/
import Derived.Test.YtfgpadkoonogpaaDoorGn
import Derived.Deep.CutRange
import Derived.Lib.Hide
namespace Go.Proofs.YtfgpadkoonogpaaDoor.Mx
open Go.RowKit Go
set_option linter.unusedSimpArgs false
set_option linter.unusedVariables false

/-- Some of the temporaries are what a function says. -/
def mix : List (Option Nat) → List Value → (Nat → Value) → List Value
  | [], _, _ => []
  | _ :: _, [], _ => []
  | some k :: ms, _ :: es, us => us k :: mix ms es us
  | none :: ms, e :: es, us => e :: mix ms es us
/-- Those that are not forgotten. -/
def keeps : List (Option Nat) → List Value → List Value
  | [], _ => []
  | _ :: _, [] => []
  | some _ :: ms, _ :: es => keeps ms es
  | none :: ms, e :: es => e :: keeps ms es
/-- Each mark names its own place. -/
def wfm : Nat → List (Option Nat) → Bool
  | _, [] => true
  | i, some k :: ms => decide (k = i) && wfm (i + 1) ms
  | i, none :: ms => wfm (i + 1) ms
theorem mix_self : ∀ (m : List (Option Nat)) (i : Nat) (es L : List Value) (us : Nat → Value), wfm i m = true → m.length = es.length → L.length = es.length → keeps m L = keeps m es → (∀ j, j < L.length → us (i + j) = L.getD j undef) → mix m es us = L
  | [], i, es, L, us, _, h1, h2, _, _ => by
    have : L = [] := List.eq_nil_of_length_eq_zero (by rw [h2, ← h1]; rfl)
    rw [this]
    rfl
  | o :: ms, i, [], L, us, _, h1, _, _, _ => by simp at h1
  | o :: ms, i, e :: es, [], us, _, _, h2, _, _ => by simp at h2
  | some k :: ms, i, e :: es, x :: L, us, hw, h1, h2, hk, hu => by
    unfold wfm at hw
    rw [Bool.and_eq_true] at hw
    have e0 : k = i := of_decide_eq_true hw.1
    have h := mix_self ms (i + 1) es L us hw.2 (by simpa using h1) (by simpa using h2) hk (fun j hj => by
      have := hu (j + 1) (by simpa using hj)
      rw [show i + 1 + j = i + (j + 1) by omega, this]
      rfl)
    show us k :: mix ms es us = x :: L
    rw [h, e0]
    have := hu 0 (by simp)
    rw [Nat.add_zero] at this
    rw [this]
    rfl
  | none :: ms, i, e :: es, x :: L, us, hw, h1, h2, hk, hu => by
    have hk' : x :: keeps ms L = e :: keeps ms es := hk
    injection hk' with e1 e2
    have h := mix_self ms (i + 1) es L us hw (by simpa using h1) (by simpa using h2) e2 (fun j hj => by
      have := hu (j + 1) (by simpa using hj)
      rw [show i + 1 + j = i + (j + 1) by omega, this]
      rfl)
    show e :: mix ms es us = x :: L
    rw [h, e1]
theorem mix_getD : ∀ (m : List (Option Nat)) (es : List Value) (us : Nat → Value) (s k : Nat), m.length = es.length → m[s]? = some (some k) → (mix m es us).getD s undef = us k
  | [], es, us, s, k, _, h => by simp at h
  | o :: ms, [], us, s, k, h1, _ => by simp at h1
  | some x :: ms, e :: es, us, 0, k, h1, h => by
    simp at h
    subst h
    rfl
  | none :: ms, e :: es, us, 0, k, h1, h => by simp at h
  | some x :: ms, e :: es, us, s + 1, k, h1, h => by
    have := mix_getD ms es us s k (by simpa using h1) (by simpa using h)
    show (us x :: mix ms es us).getD (s + 1) undef = us k
    simpa using this
  | none :: ms, e :: es, us, s + 1, k, h1, h => by
    have := mix_getD ms es us s k (by simpa using h1) (by simpa using h)
    show (e :: mix ms es us).getD (s + 1) undef = us k
    simpa using this
section
variable {P : Program} {elems : List Value} {w : World}
/-- The frame has what is not forgotten; the relation. -/
def Rn (m : List (Option Nat)) (elems : List Value) (dfs : Array Value → Act) (R : (Nat → Value) → World → Prop) (a' : Act) (w' : World) : Prop :=
  ∃ L : List Value, a' = dfs L.toArray ∧ L.length = elems.length ∧ keeps m L = keeps m elems ∧ R (fun i => L.getD i undef) w'
/-- A round's end. -/
def Rnd (m : List (Option Nat)) (elems : List Value) (dfs : Array Value → Act) (slot : Nat) (R : (Nat → Value) → World → Prop) (mu : Value → Nat) (v0 : Value) (a' : Act) (w' : World) : Prop :=
  ∃ L : List Value, a' = dfs L.toArray ∧ L.length = elems.length ∧ keeps m L = keeps m elems ∧ R (fun i => L.getD i undef) w' ∧ mu (L.getD slot undef) < mu v0
theorem loopm {c : Code} {Q : Exit → Act → World → Prop} (m : List (Option Nat)) (slot : Nat) (R : (Nat → Value) → World → Prop) (mu : Value → Nat)
    (hm : wfm 0 m = true) (hl : m.length = elems.length) (hs : m[slot]? = some (some slot)) (h0 : R (fun i => elems.getD i undef) w)
    (round : ∀ (us : Nat → Value) (wr : World) (J K : Act → World → Prop) (T : List Value), T = mix m elems us → Hid (∀ a' w', Rnd m elems (fun t => ⟨t, []⟩) slot R mu (us slot) a' w' → J a' w') → (∀ a' w', Met J a' w' → K a' w') → R us wr →
      c.wp P (Exit.then K Q) ⟨T.toArray, []⟩ wr) :
    (Code.loop c).wp P Q ⟨elems.toArray, []⟩ w := by
  refine wp_loop (fun a w => ∃ us, R us w ∧ a = ⟨(mix m elems us).toArray, []⟩) (fun a _ => mu (a.tmps.getD slot undef)) ⟨_, h0, ?_⟩ ?_
  · rw [mix_self m 0 elems elems _ hm hl rfl rfl fun j _ => by rw [Nat.zero_add]]
  · rintro a wr ⟨us, hR, rfl⟩
    refine wp_mono (round us wr (Rnd m elems (fun t => ⟨t, []⟩) slot R mu (us slot)) (Rnd m elems (fun t => ⟨t, []⟩) slot R mu (us slot)) _ rfl (Lib.hid fun _ _ h => h) (fun _ _ h => h) hR) ?_
    intro e a' w' hq
    cases e with
    | normal =>
      obtain ⟨L, rfl, h1, h2, h3, h4⟩ := hq
      refine ⟨⟨_, h3, ?_⟩, ?_⟩
      · rw [mix_self m 0 elems L _ hm hl h1 h2 fun j _ => by rw [Nat.zero_add]]
      · have e1 : (List.toArray L).getD slot undef = L.getD slot undef := by simp
        have e2 : (List.toArray (mix m elems us)).getD slot undef = us slot := by
          rw [← mix_getD m elems us slot slot hl hs]
          simp
        show mu ((List.toArray L).getD slot undef) < mu ((List.toArray (mix m elems us)).getD slot undef)
        rw [e1, e2]
        exact h4
    | exit id => exact hq
    | goto l => exact hq
    | ret => exact hq
    | panic ch => exact hq
    | outgrown => exact hq
theorem cutm {s : Code} {K : Act → World → Prop} {Q' : Exit → Act → World → Prop} (m : List (Option Nat)) (R : (Nat → Value) → World → Prop) (hm : wfm 0 m = true) (hl : m.length = elems.length)
    (first : ∀ (J K' : Act → World → Prop), Hid (∀ a' w', Rn m elems (fun t => ⟨t, []⟩) R a' w' → J a' w') → (∀ a' w', Met J a' w' → K' a' w') → s.wp P (Exit.then K' Q') ⟨elems.toArray, []⟩ w)
    (rest : ∀ (us : Nat → Value) (wr : World) (T : List Value), T = mix m elems us → R us wr → K ⟨T.toArray, []⟩ wr) : s.wp P (Exit.then K Q') ⟨elems.toArray, []⟩ w := by
  refine wp_cut (Rn m elems (fun t => ⟨t, []⟩) R) ?_ ?_
  · rintro a' w' ⟨L, rfl, h1, h2, h3⟩
    refine rest _ w' _ ?_ h3
    rw [mix_self m 0 elems L _ hm hl h1 h2 fun j _ => by rw [Nat.zero_add]]
  · exact fun J K' h1 h2 => first J K' (Lib.hid h1) h2
end
end Go.Proofs.YtfgpadkoonogpaaDoor.Mx
