/- The calls of the brush's plays, told of the law's state. -/
import Derived.Test.YtfgpadkoonogpaaDoorBp
namespace Go.Proofs.YtfgpadkoonogpaaDoor.Hp
open Go.RowKit Pg Ar Tm Br
set_option linter.unusedSimpArgs false
set_option linter.unusedVariables false

/-- A number of these bits. -/
theorem bits_ex (f : Nat → Bool) : ∀ n : Nat, ∃ V : Nat, ∀ i, i < n → V.testBit i = f i := by
  have h : ∀ n : Nat, ∃ V : Nat, V < 2 ^ n ∧ ∀ i, i < n → V.testBit i = f i := by
    intro n
    induction n with
    | zero => exact ⟨0, by decide, fun i hi => by omega⟩
    | succ n ih =>
      obtain ⟨V, hV, hb⟩ := ih
      have hp : 2 ^ (n + 1) = 2 ^ n + 2 ^ n := by rw [Nat.pow_succ]; omega
      rcases hf : f n with _ | _
      · refine ⟨V, by omega, fun i hi => ?_⟩
        by_cases e : i = n
        · subst e
          rw [hf, Nat.testBit_lt_two_pow hV]
        · exact hb i (by omega)
      · refine ⟨2 ^ n + V, by omega, fun i hi => ?_⟩
        by_cases e : i = n
        · subst e
          rw [hf, Nat.testBit_two_pow_add_eq, Nat.testBit_lt_two_pow hV]
          rfl
        · rw [Nat.testBit_two_pow_add_gt (by omega)]
          exact hb i (by omega)
  intro n
  obtain ⟨V, _, h2⟩ := h n
  exact ⟨V, h2⟩
/-- Shade, whatever stands there. -/
def ShB (σ : HS) (a : Int) (b : Bool) (σ' : HS) : Prop :=
  (b = true ∧ ∃ k s t, hat σ a = some (k, s) ∧ σ.M k s = some t ∧ t.2.2 = 0 ∧ σ' = { σ with M := put σ.M k s (some (t.1, t.2.1, 1)) }) ∨ (b = false ∧ (∀ k s t, hat σ a = some (k, s) → σ.M k s = some t → t.2.2 ≠ 0) ∧ σ' = σ)
theorem ShB.uniq {σ τ σ' τ' : HS} {a : Int} {b b' : Bool} (h : Same σ τ) (h1 : ShB σ a b σ') (h2 : ShB τ a b' τ') : b = b' ∧ Same σ' τ' := by
  rcases h1 with ⟨rfl, k, s, t, e1, e2, e3, rfl⟩ | ⟨rfl, e1, rfl⟩
  · rcases h2 with ⟨rfl, k', s', t', g1, g2, g3, rfl⟩ | ⟨rfl, g1, rfl⟩
    · rw [h.hat_, g1] at e1
      injection e1 with e1
      injection e1 with e1 e1'
      subst e1 e1'
      rw [h.M, g2] at e2
      injection e2 with e2
      subst e2
      refine ⟨rfl, ?_⟩
      rw [h.M]
      exact h.with_ _
    · exact absurd e3 (g1 k s t (by rw [← h.hat_]; exact e1) (by rw [← h.M]; exact e2))
  · rcases h2 with ⟨rfl, k', s', t', g1, g2, g3, rfl⟩ | ⟨rfl, g1, rfl⟩
    · exact absurd g3 (e1 k' s' t' (by rw [h.hat_]; exact g1) (by rw [h.M]; exact g2))
    · exact ⟨rfl, h⟩
def ShBIs (B : HB) (ls : List (List Int)) (σ : HS) (a : Int) (w : World) (e : Ending) (w' : World) : Prop :=
  ∃ (b : Bool) (σ' : HS), e = .returned (.bool b) ∧ ShB σ a b σ' ∧ HpAt w' B ls σ' ∧ Kept (fun i => HFoot B σ i) w w' ∧ ∀ i, HFoot B σ' i → HFoot B σ i
theorem shadeB_any (B : HB) (ls : List (List Int)) (σ : HS) (a : Int) (w : World) (h : HpAt w B ls σ) (ha : a ≤ 9223372036854775807) :
    Calls Tryd.prog 41 #[.pointer (some ⟨B.b, 0, none⟩), .int .i64 a] w (ShBIs B ls σ a w) := by
  by_cases hx : ∃ k s t, hat σ a = some (k, s) ∧ σ.M k s = some t ∧ t.2.2 = 0
  · obtain ⟨k, s, t, e1, e2, e3⟩ := hx
    refine (shade_yes B ls σ a k s t w h ha e1 e2 e3).mono ?_
    rintro e w' ⟨rfl, h1, h2⟩
    exact ⟨true, _, rfl, .inl ⟨rfl, k, s, t, e1, e2, e3, rfl⟩, h1, h2.wide fun i _ e => e ▸ foot_bm B σ, fun i hi => foot_ps (σ := σ) rfl hi⟩
  · have hn : ∀ k s t, hat σ a = some (k, s) → σ.M k s = some t → t.2.2 ≠ 0 := fun k s t e1 e2 e3 => hx ⟨k, s, t, e1, e2, e3⟩
    refine (shade_no B ls σ a w h ha hn).mono ?_
    rintro e w' ⟨rfl, h1⟩
    exact ⟨false, σ, rfl, .inr ⟨rfl, hn, rfl⟩, h.call h1, Kept.of_below h1 _, fun i hi => hi⟩
namespace BP
variable {w wr w' : World} {B1 B2 : HB} {ls : List (List Int)} {lo hi ba bk bl z0 : Nat} {L : List Int} {A1 : Option Addr} {c1 : Nat} {σ τ σ' τ' : HS} {U V U' V' : Nat} {S : Nat → Prop} {oo : Option (Nat × Array Value)}
theorem bits (h : BP w wr B1 B2 ls lo hi ba bk bl z0 L A1 c1 σ τ U V S oo) (hV : ∀ i, i < 64 → V.testBit i = V'.testBit i) : BP w wr B1 B2 ls lo hi ba bk bl z0 L A1 c1 σ τ U V' S oo :=
  { h with lf := h.lf.of_eq (by
      unfold lcs
      exact congrArg List.toArray (List.map_congr_left fun i hi => by rw [hV i (List.mem_range.1 hi)])) }
theorem side (h : BP w wr B1 B2 ls lo hi ba bk bl z0 L A1 c1 σ τ U V S oo) (h0 : 0 < w.heap.size ∧ 1 < w.heap.size) : ¬ HFoot B1 σ ba ∧ B1.z ≤ ba ∧ 0 < B1.z ∧ 1 < B1.z := by
  obtain ⟨o1, o2, o3, o4, o5⟩ := h.or_
  have hz := h.z1
  have hn := h.h1.new
  exact ⟨fun e => by have := h.f1 ba e; omega, by omega, by omega, by omega⟩
theorem next (h : BP w wr B1 B2 ls lo hi ba bk bl z0 L A1 c1 σ τ U V S oo) (h0 : 0 < w.heap.size ∧ 1 < w.heap.size) :
    Calls Tryd.prog 35 #[.pointer (some ⟨ba, 0, none⟩), .pointer (some ⟨B1.b, 0, none⟩)] wr fun e w' =>
      (e = .returned (.tuple #[.int .i64 0, .int .i64 0, .bool false]) ∧ (∀ j, U.testBit j = false) ∧ wr = w') ∨ ∃ (j g : Nat) (σ' : HS), e = .returned (.tuple #[.int .i64 (j : Int), .int .i64 (g : Int), .bool true]) ∧ j < 64 ∧ U.testBit j = true ∧ (∀ i, i < j → U.testBit i = false) ∧ Sw1 σ j g σ' ∧ BP w w' B1 B2 ls lo hi ba bk bl z0 L A1 c1 σ' τ (rm U j) V S oo := by
  obtain ⟨s1, s2, s3, s4⟩ := h.side h0
  refine (next_any ba U B1 ls σ wr h.br h.h1.hp h.h1.tab h.tz s1 s2 s3).mono ?_
  rintro e w' (⟨e1, e2, e3⟩ | ⟨j, g, σ', e1, e2, e3, e4, e5, e6, e7, e8, e9⟩)
  · exact .inl ⟨e1, e2, e3⟩
  · exact .inr ⟨j, g, σ', e1, e2, e3, e4, e6, h.m1 h0 e7 e8 e9 e5⟩
theorem need (h : BP w wr B1 B2 ls lo hi ba bk bl z0 L A1 c1 σ τ U V S oo) (h0 : 0 < w.heap.size ∧ 1 < w.heap.size) (c : Int) :
    Calls Tryd.prog 39 #[.pointer (some ⟨ba, 0, none⟩), .pointer (some ⟨B1.b, 0, none⟩), .int .i64 c] wr fun e w' => ∃ (b : Bool) (U' : Nat) (σ' : HS), e = .returned (.bool b) ∧ Nd c 64 0 σ U b σ' U' ∧ BP w w' B1 B2 ls lo hi ba bk bl z0 L A1 c1 σ' τ U' V S oo := by
  obtain ⟨s1, s2, s3, s4⟩ := h.side h0
  refine (needx_any ba U B1 ls σ c wr h.br h.h1.hp h.h1.tab h.tz s1 s2 s3 s4).mono ?_
  rintro e w' ⟨b, U', σ', e1, e2, e3, e4, e5, e6⟩
  exact ⟨b, U', σ', e1, e6, h.m1 h0 e3 e4 e5 e2⟩
theorem rest (h : BP w wr B1 B2 ls lo hi ba bk bl z0 L A1 c1 σ τ U V S oo) (h0 : 0 < w.heap.size ∧ 1 < w.heap.size) (hn : num σ ≤ 1000000) :
    Calls Tryd.prog 37 #[.pointer (some ⟨ba, 0, none⟩), .pointer (some ⟨B1.b, 0, none⟩)] wr fun e w' => ∃ (g : Nat) (σ' : HS), e = .returned (.int .i64 (g : Int)) ∧ SwP σ U.testBit g σ' ∧ BP w w' B1 B2 ls lo hi ba bk bl z0 L A1 c1 σ' τ 0 V S oo := by
  obtain ⟨s1, s2, s3, s4⟩ := h.side h0
  refine (rest_any ba U B1 ls σ wr h.br h.h1.hp h.h1.tab h.tz s1 s2 s3 s4 hn).mono ?_
  rintro e w' ⟨g, σ', e1, e2, e3, e4, e5, e6⟩
  exact ⟨g, σ', e1, e3, h.m1 h0 e4 e5 e6 e2⟩
theorem begin_ (h : BP w wr B1 B2 ls lo hi ba bk bl z0 L A1 c1 σ τ U V S oo) (h0 : 0 < w.heap.size ∧ 1 < w.heap.size) (x : Int) :
    Calls Tryd.prog 40 #[.pointer (some ⟨ba, 0, none⟩), .int .i64 x] wr fun e w' => e = .returned (.tuple #[]) ∧ BP w w' B1 B2 ls lo hi ba bk bl z0 L A1 c1 σ τ (2 ^ (min (max x 0) 64).toNat - 1) V S oo := by
  obtain ⟨o1, o2, o3, o4, o5⟩ := h.or_
  refine (begin_any ba U x wr h.br).mono ?_
  rintro e w' ⟨e1, e2, e3⟩
  refine ⟨e1, h.up h0 e3 (fun i e => by omega) e2 ((e3.block bl h.lf.lt fun e => by omega).trans h.lf) (h.bo.kept e3 fun k hs e => by have := h.bs k hs; omega) h.bs fun b cs e => ⟨e, fun e2 => by have := (h.op b cs e).1; omega⟩⟩
theorem sweep2 (h : BP w wr B1 B2 ls lo hi ba bk bl z0 L A1 c1 σ τ U V S oo) (h0 : 0 < w.heap.size ∧ 1 < w.heap.size) (k : Nat) :
    Calls Tryd.prog 31 #[.pointer (some ⟨B2.b, 0, none⟩), .int .i64 (k : Int)] wr fun e w' => ∃ (g : Nat) (τ' : HS), e = .returned (.int .i64 (g : Int)) ∧ Sw1 τ k g τ' ∧ InvX τ' ∧ BP w w' B1 B2 ls lo hi ba bk bl z0 L A1 c1 σ τ' U V S oo := by
  refine (sweepP_any B2 ls τ k wr h.h2.hp h.h2.tab).mono ?_
  rintro e w' ⟨g, τ', e1, e2, e3, e4, e5⟩
  exact ⟨g, τ', e1, e2, InvX.of e3, h.m2 h0 e3 e4 e5⟩
theorem shade1 (h : BP w wr B1 B2 ls lo hi ba bk bl z0 L A1 c1 σ τ U V S oo) (h0 : 0 < w.heap.size ∧ 1 < w.heap.size) (a : Int) (ha : a ≤ 9223372036854775807) :
    Calls Tryd.prog 41 #[.pointer (some ⟨B1.b, 0, none⟩), .int .i64 a] wr fun e w' => ∃ (b : Bool) (σ' : HS), e = .returned (.bool b) ∧ ShB σ a b σ' ∧ BP w w' B1 B2 ls lo hi ba bk bl z0 L A1 c1 σ' τ U V S oo := by
  obtain ⟨o1, o2, o3, o4, o5⟩ := h.or_
  refine (shadeB_any B1 ls σ a wr h.h1.hp ha).mono ?_
  rintro e w' ⟨b, σ', e1, e2, e3, e4, e5⟩
  exact ⟨b, σ', e1, e2, h.m1 h0 e3 (e4.wide fun i _ hi => .inr hi) e5 (h.br.keep (e4.block ba h.br.blk.lt (h.side h0).1))⟩
theorem shade2 (h : BP w wr B1 B2 ls lo hi ba bk bl z0 L A1 c1 σ τ U V S oo) (h0 : 0 < w.heap.size ∧ 1 < w.heap.size) (a : Int) (ha : a ≤ 9223372036854775807) :
    Calls Tryd.prog 41 #[.pointer (some ⟨B2.b, 0, none⟩), .int .i64 a] wr fun e w' => ∃ (b : Bool) (τ' : HS), e = .returned (.bool b) ∧ ShB τ a b τ' ∧ BP w w' B1 B2 ls lo hi ba bk bl z0 L A1 c1 σ τ' U V S oo := by
  refine (shadeB_any B2 ls τ a wr h.h2.hp ha).mono ?_
  rintro e w' ⟨b, τ', e1, e2, e3, e4, e5⟩
  exact ⟨b, τ', e1, e2, h.m2 h0 e3 e4 e5⟩
theorem class2 (h : BP w wr B1 B2 ls lo hi ba bk bl z0 L A1 c1 σ τ U V S oo) (k : Int) :
    Calls Tryd.prog 38 #[.pointer (some ⟨B2.b, 0, none⟩), .int .i64 k] wr fun e w' => e = .returned (kcl τ k) ∧ BP w w' B1 B2 ls lo hi ba bk bl z0 L A1 c1 σ τ U V S oo := by
  refine (class_any' B2 ls τ k wr h.h2.hp).mono ?_
  rintro e w' ⟨e1, n, rfl⟩
  exact ⟨e1, h.call (below_drewN (Below.refl _ _) n)⟩
/-- The book is told of a list that was made since. -/
theorem ints (h : BP w wr B1 B2 ls lo hi ba bk bl z0 L A1 c1 σ τ U V S oo) (h0 : 0 < w.heap.size ∧ 1 < w.heap.size) (hb : Below wr.heap.size wr w') {A : Option Addr} {c : Nat} {xs : List Int} (hv : w'.ownsRow wr.heap.size 3 1 (.slice A xs.length c) xs.length (ints' xs)) (hx : xs.length ≤ 99000) :
    Calls Tryd.prog 16 #[.pointer (some ⟨bk, 0, none⟩), .slice A xs.length c] w' fun e w'' => e = .returned (.tuple #[]) ∧ Book.KeepsInts w' w'' ∧ ∃ S', BP w w'' B1 B2 ls lo hi ba bk bl z0 L A1 c1 σ τ U V S' none := by
  obtain ⟨o1, o2, o3, o4, o5⟩ := h.or_
  have hbl := h.lf.lt
  have hbl2 := h.br.blk.lt
  refine (h.bo.ints (by omega) hb hv hx).mono ?_
  rintro e w'' ⟨e1, e2, e3, S', e4, e5⟩
  have h2 := h.call hb
  have hT : ∀ i, (S i ∨ wr.heap.size ≤ i) → bk ≤ i ∧ i ≠ bl := fun i hi => by
    rcases hi with hi | hi
    · exact h.bs i hi
    · omega
  exact ⟨e1, e3, S', h2.up h0 e2 (fun i hi => by have := (hT i hi).1; omega) (h2.br.keep (e2.block ba h2.br.blk.lt fun e => by have := (hT _ e).1; omega)) ((e2.block bl h2.lf.lt fun e => (hT _ e).2 rfl).trans h2.lf) e4 (fun k hk => hT k (e5 k hk)) fun b cs e => by cases e⟩
end BP
end Go.Proofs.YtfgpadkoonogpaaDoor.Hp
