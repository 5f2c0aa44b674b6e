/- Heaps side by side: what is done to the one leaves the other alone; a mark; what is behind a whole sweep. -/
import Derived.Test.YtfgpadkoonogpaaDoorLk
import Derived.Test.YtfgpadkoonogpaaDoorBrz
namespace Go.Proofs.YtfgpadkoonogpaaDoor.Hp
open Go.RowKit Pg Ar Tm
set_option linter.unusedSimpArgs false
set_option linter.unusedVariables false

section
variable {w w0 wr w' : World} {B : HB} {ls : List (List Int)} {σ σ1 : HS} {P i lo : Nat} {L T : List Int} {S : Nat → Prop}
theorem HW.base (h : HW w0 wr B ls σ) (hb : Below w.heap.size w w0) : HW w wr B ls σ := ⟨h.hp, Nat.le_trans hb.size h.newy, fresh_call hb h.bel, h.tab⟩
/-- What turns lies above the heap. -/
theorem HW.above (h : HW w wr B ls σ) (h0 : 0 < w.heap.size) (hlo : ∀ i, HFoot B σ i → i < lo) (hz : B.z ≤ lo) (hk : Kept S wr w') (hS : ∀ i, S i → lo ≤ i) : HW w w' B ls σ :=
  h.aside h0 hk fun i hi => ⟨fun e => by have := hS i hi; have := hlo i e; omega, by have := hS i hi; omega⟩
/-- What turns lies beneath the heap. -/
theorem HW.beneath (h : HW w wr B ls σ) (h0 : 0 < w.heap.size) (hk : Kept S wr w') (hS : ∀ i, S i → w.heap.size ≤ i ∧ i < B.y) : HW w w' B ls σ :=
  ⟨h.hp.kept hk (fun i hi e => by
    have h1 := hS i e
    have h2 := h.hp.yz
    rcases hi with hi | hi
    · have := h.hp.new i hi; omega
    · omega), h.newy, h.bel.trans (hk.below h.bel.size fun i hi e => by have := (hS i e).1; omega), h.tab.kept hk (fun e => by have := (hS _ e).1; omega)⟩
theorem Mark.base (h : Mark w0 wr B ls P σ1 L T σ) (hb : Below w.heap.size w w0) : Mark w wr B ls P σ1 L T σ := { h with hw := h.hw.base hb }
theorem Mark.above (h : Mark w wr B ls P σ1 L T σ) (h0 : 0 < w.heap.size) (hlo : ∀ i, HFoot B σ i → i < lo) (hz : B.z ≤ lo) (hk : Kept S wr w') (hS : ∀ i, S i → lo ≤ i) : Mark w w' B ls P σ1 L T σ := { h with hw := h.hw.above h0 hlo hz hk hS }
theorem Mark.beneath (h : Mark w wr B ls P σ1 L T σ) (h0 : 0 < w.heap.size) (hk : Kept S wr w') (hS : ∀ i, S i → w.heap.size ≤ i ∧ i < B.y) : Mark w w' B ls P σ1 L T σ := { h with hw := h.hw.beneath h0 hk hS }
theorem Mark.foot (h : Mark w wr B ls P σ1 L T σ) {i : Nat} (hi : HFoot B σ i) : HFoot B σ1 i := foot_ps h.ps hi
end
/-- Behind Shade. -/
def ShadeIs (w : World) (B : HB) (ls : List (List Int)) (P : Nat) (σ1 : HS) (L T : List Int) (a : Int) (wr : World) (e : Ending) (w' : World) : Prop :=
  ∃ σ', e = .returned (.bool (decide (a ∉ T))) ∧ Mark w w' B ls P σ1 L (addT T a) σ' ∧ Kept (fun i => i = B.bm) wr w'
theorem shade_mark (w : World) (B : HB) (ls : List (List Int)) (P : Nat) (σ1 : HS) (L T : List Int) (σ : HS) (a : Int) (wr : World) (h0 : 0 < w.heap.size) (h : Mark w wr B ls P σ1 L T σ) (ha : a ∈ L) :
    Calls Tryd.prog 41 #[.pointer (some ⟨B.b, 0, none⟩), .int .i64 a] wr (ShadeIs w B ls P σ1 L T a wr) := by
  obtain ⟨k, s, t, hh, ht, hcase⟩ := h.here ha
  have hab := hat_bound h.hw.hp hh
  rcases hcase with ⟨hne, haT, hmk'⟩ | ⟨he0, haT⟩
  · refine (shade_no B ls σ a _ h.hw.hp (by omega) (fun k' s' t' e1 e2 => by
      rw [hh] at e1; cases e1; rw [ht] at e2; cases e2; exact hne)).mono ?_
    rintro e w5 ⟨rfl, hb5⟩
    exact ⟨σ, by rw [decide_eq_false (fun h => h haT)], hmk'.call hb5, Kept.of_below hb5 _⟩
  · refine (shade_yes B ls σ a k s t _ h.hw.hp (by omega) hh ht he0).mono ?_
    rintro e w5 ⟨rfl, hat5, hk5⟩
    exact ⟨_, by rw [decide_eq_true haT], h.add h0 ha hh ht hat5 hk5, hk5⟩
end Go.Proofs.YtfgpadkoonogpaaDoor.Hp

namespace Go.Proofs.YtfgpadkoonogpaaDoor.Br
open Go.RowKit Bit Wd Hp Ar
/-- Sweeps, one behind the other. -/
theorem SwP.trans {σ σ' σ'' : HS} {p q : Nat → Bool} {g n : Nat} (h : SwP σ p g σ') (h' : SwP σ' q n σ'') (hd : ∀ i, p i = true → q i = false) : SwP σ (fun i => p i || q i) (g + n) σ'' := by
  refine ⟨h'.sub.trans h.sub, h'.len.trans h.len, fun i s => ?_, by have := h'.num; have := h.num; omega, fun i hi => ?_, h'.ws.trans h.ws, h'.sr.trans h.sr, h'.gv.trans h.gv, fun i hi => ?_⟩
  · rw [h'.M, h.M]
    cases hp : p i
    · simp
    · simp [hd i hp]
  · rw [Bool.or_eq_false_iff] at hi
    exact (h'.other i hi.2).trans (h.other i hi.1)
  · cases hp : p i
    · have hi : q i = true := by simpa [hp] using hi
      exact (h'.pg i hi).to (h.other i hp)
    · have hq := hd i hp
      exact (h.pg i hp).on (h'.other i hq) fun s => by rw [h'.M, hq]; rfl
theorem SwP.swept {w wr : World} {B : HB} {ls : List (List Int)} {σ σ' : HS} {g : Nat} (hw : HW w wr B ls σ') (h : SwP σ (fun i => decide (i < 64)) g σ') : Swept w wr B ls σ 64 g σ' :=
  ⟨hw, h.sub, h.len, fun i s => by rw [h.M]; by_cases e : i < 64 <;> simp [e], h.num⟩
theorem SwP.none_ {σ σ' : HS} {p : Nat → Bool} {g : Nat} (h : SwP σ p g σ') (hp : ∀ i, p i = false) : g = 0 := by
  have e : σ'.ps = σ.ps := List.ext_getElem? fun i => h.other i (hp i)
  have : Hp.num σ' = Hp.num σ := by unfold Hp.num; rw [e]
  have := h.num
  omega
theorem lefts_zero : lefts 0 = [] := by decide
end Go.Proofs.YtfgpadkoonogpaaDoor.Br
namespace Go.Proofs.YtfgpadkoonogpaaDoor.Hp
open Go.RowKit Pg Ar Tm
theorem full_bit (i : Nat) : Nat.testBit 18446744073709551615 i = decide (i < 64) := Nat.testBit_two_pow_sub_one 64 i
theorem HW.with_ {w wr w' : World} {B : HB} {ls : List (List Int)} {σ σ' : HS} {S : Nat → Prop} (h : HW w wr B ls σ) (h0 : 0 < w.heap.size) (ha : HpAt w' B ls σ') (hk : Kept S wr w') (hS : ∀ i, S i → w.heap.size ≤ i) : HW w w' B ls σ' :=
  ⟨ha, h.newy, h.bel.trans (hk.below h.bel.size fun i hi e => by have := hS i e; omega), h.tab.kept hk (fun e => by have := hS _ e; omega)⟩
theorem ocs_at {os : List OC} {i : Nat} {o : OC} (h : os[i]? = some o) : (os.flatMap ocs)[i * 5]? = some (.int .i64 o.1) ∧ (os.flatMap ocs)[i * 5 + 4]? = some (.bool o.2.2.2.2) := by
  induction os generalizing i with
  | nil => simp at h
  | cons p l ih =>
    cases i with
    | zero => simp at h; subst h; simp [ocs]
    | succ i =>
      have := ih (i := i) (by simpa using h)
      simp only [ocs, List.flatMap_cons] at this ⊢
      rw [show (i + 1) * 5 = i * 5 + 5 by omega, show i * 5 + 5 + 4 = (i * 5 + 4) + 5 by omega]
      simpa using this
end Go.Proofs.YtfgpadkoonogpaaDoor.Hp
