/- Marking, without a program: what holds of colors and a pile, step by step (plain). -/
import Derived.Test.YtoajbjeiplolnaaDoorRTk
namespace Go.Proofs.YtoajbjeiplolnaaDoorR.Tn
open Go.RowKit Ar Hp
set_option linter.unusedSimpArgs false
set_option linter.unusedVariables false

def cnt (A : List Int) (c : Int → Int) (k : Int) : Nat := (A.filter fun b => c b == k).length
theorem cnt_out {A : List Int} {c : Int → Int} {a y : Int} (h : a ∉ A) (k : Int) : cnt A (upd c a y) k = cnt A c k := by
  unfold cnt
  congr 1
  refine List.filter_congr fun b hb => ?_
  unfold upd
  rw [if_neg (fun e : b = a => h (e ▸ hb))]
theorem cnt_upd {A : List Int} {c : Int → Int} {a y : Int} (hn : A.Pairwise (· ≠ ·)) (ha : a ∈ A) (k : Int) : cnt A (upd c a y) k + (if c a = k then 1 else 0) = cnt A c k + (if y = k then 1 else 0) := by
  induction A with
  | nil => cases ha
  | cons b A ih =>
    rw [List.pairwise_cons] at hn
    have hc : ∀ f : Int → Int, cnt (b :: A) f k = cnt A f k + if f b = k then 1 else 0 := by
      intro f
      unfold cnt
      rw [List.filter_cons]
      by_cases e : f b = k
      · simp [e]
      · simp [e]
    rw [hc, hc]
    by_cases e : a = b
    · subst e
      have hna : a ∉ A := fun h => hn.1 a h rfl
      rw [cnt_out hna]
      have : upd c a y a = y := by unfold upd; rw [if_pos rfl]
      rw [this]
      omega
    · have hb : upd c a y b = c b := by unfold upd; rw [if_neg (fun h => e h.symm)]
      have := ih hn.2 ((List.mem_cons.1 ha).resolve_left e)
      rw [hb]
      omega
theorem cnt_sum (A : List Int) {c : Int → Int} (h : ∀ a, c a = 0 ∨ c a = 1 ∨ c a = 2) : cnt A c 0 + cnt A c 1 + cnt A c 2 = A.length := by
  induction A with
  | nil => rfl
  | cons b A ih =>
    have hc : ∀ k, cnt (b :: A) c k = cnt A c k + if c b = k then 1 else 0 := by
      intro k
      unfold cnt
      rw [List.filter_cons]
      by_cases e : c b = k
      · simp [e]
      · simp [e]
    rw [hc, hc, hc, List.length_cons]
    rcases h b with e | e | e <;> rw [e] <;> simp <;> omega
/-- What is reached. -/
inductive Rch (ls : List (List Int)) (σ : HS) (S : Int → Prop) : Int → Prop where
  | base {a : Int} (h : S a) : Rch ls σ S a
  | step {a v b : Int} (h : Rch ls σ S a) (hv : v ∈ ptrs ls σ a) (hb : fo σ v = some b) : Rch ls σ S b
theorem Rch.mono {ls : List (List Int)} {σ : HS} {S S' : Int → Prop} (hS : ∀ a, S a → Rch ls σ S' a) {a : Int} (h : Rch ls σ S a) : Rch ls σ S' a := by
  induction h with
  | base h => exact hS _ h
  | step _ hv hb ih => exact .step ih hv hb
abbrev All (σ : HS) : List Int := allOf σ.ps σ.ps.length
/-- What holds at each step: S were shaded; X are in hand. -/
structure Inv (ls : List (List Int)) (σ : HS) (S X : Int → Prop) (T : TS) : Prop where
  nd : T.l.Pairwise (· ≠ ·)
  gr : ∀ a ∈ T.l, T.c a = 1
  al : T.lost = false → ∀ a, T.c a = 1 → a ∈ T.l ∨ X a
  ob : ∀ a, T.c a ≠ 0 → a ∈ All σ
  c3 : ∀ a, T.c a = 0 ∨ T.c a = 1 ∨ T.c a = 2
  bl : ∀ a, T.c a = 2 → ∀ v ∈ ptrs ls σ a, ∀ b, fo σ v = some b → T.c b ≠ 0
  rc : ∀ a, T.c a ≠ 0 → Rch ls σ S a
  st : ∀ a, S a → T.c a ≠ 0
/-- What a heap gives. -/
structure Gd (σ : HS) : Prop where
  fo_in : ∀ v b, fo σ v = some b → b ∈ All σ
  nd : (All σ).Pairwise (· ≠ ·)
theorem Gd.of {w : World} {B : HB} {ls : List (List Int)} {σ : HS} (h : HpAt w B ls σ) : Gd σ :=
  ⟨fun v b e => by
    obtain ⟨_, _, k, s, t, hh, _⟩ := fo_hat h e
    exact (obj_in h).2 ⟨_, hh⟩, allOf_nodup h _⟩
section
variable {ls : List (List Int)} {σ : HS} {room : Nat} {S S' X : Int → Prop}
theorem Inv.sh1_ (hG : Gd σ) {p : TS × Nat} (h : Inv ls σ S X p.1) {v : Int} (hv : ∀ b, fo σ v = some b → Rch ls σ S' b) (hS : ∀ a, S a → S' a) (hS' : ∀ a, S' a → S a ∨ fo σ v = some a) :
    Inv ls σ S' X (sh1 σ room p v).1 ∧ (∀ b, fo σ v = some b → (sh1 σ room p v).1.c b ≠ 0) ∧ ∃ n : Nat, (sh1 σ room p v).2 = p.2 + n ∧ cnt (All σ) (sh1 σ room p v).1.c 1 = cnt (All σ) p.1.c 1 + n ∧ cnt (All σ) (sh1 σ room p v).1.c 2 = cnt (All σ) p.1.c 2 := by
  have hmono : ∀ a, Rch ls σ S a → Rch ls σ S' a := fun a ha => ha.mono fun b hb => .base (hS b hb)
  rcases hf : fo σ v with _ | a
  · rw [sh1_none hf]
    refine ⟨⟨h.nd, h.gr, h.al, h.ob, h.c3, h.bl, fun a ha => hmono a (h.rc a ha), fun a ha => ?_⟩, fun b hb => (by cases hb), 0, rfl, rfl, rfl⟩
    rcases hS' a ha with h1 | h1
    · exact h.st a h1
    · rw [hf] at h1; cases h1
  · by_cases hc : p.1.c a = 0
    · rw [sh1_new hf hc]
      have hne : ∀ b, p.1.c b ≠ 0 → upd p.1.c a 1 b = p.1.c b := fun b hb => by
        unfold upd
        rw [if_neg]
        rintro rfl
        exact hb hc
      have haa : upd p.1.c a 1 a = 1 := by unfold upd; rw [if_pos rfl]
      have hback : ∀ b, upd p.1.c a 1 b ≠ 0 → b = a ∨ p.1.c b ≠ 0 := fun b hb => by
        by_cases e : b = a
        · exact .inl e
        · right
          unfold upd at hb
          rwa [if_neg e] at hb
      have hnl : a ∉ p.1.l := fun hm => by
        have := h.gr a hm
        rw [hc] at this; cases this
      refine ⟨⟨?_, ?_, ?_, ?_, ?_, ?_, ?_, ?_⟩, fun b hb => ?_, 1, rfl, ?_, ?_⟩
      · show (p.1.l ++ [a].take (room - p.1.l.length)).Pairwise (· ≠ ·)
        rw [List.pairwise_append]
        refine ⟨h.nd, ?_, fun b hb d hd e => ?_⟩
        · rcases room - p.1.l.length with _ | k <;> simp
        · have hd := List.mem_of_mem_take hd
          rw [List.mem_singleton.1 hd] at e
          exact hnl (e ▸ hb)
      · intro b hb
        show upd p.1.c a 1 b = 1
        have hb : b ∈ p.1.l ++ [a].take (room - p.1.l.length) := hb
        rcases List.mem_append.1 hb with hb | hb
        · rw [hne b (by rw [h.gr b hb]; decide)]
          exact h.gr b hb
        · rw [List.mem_singleton.1 (List.mem_of_mem_take hb)]
          exact haa
      · intro hl b hb
        have hl : (p.1.lost || decide (room - p.1.l.length < 1)) = false := hl
        have hb : upd p.1.c a 1 b = 1 := hb
        rw [Bool.or_eq_false_iff, decide_eq_false_iff_not] at hl
        show b ∈ p.1.l ++ [a].take (room - p.1.l.length) ∨ X b
        have ht : [a].take (room - p.1.l.length) = [a] := List.take_of_length_le (by simp; omega)
        rw [ht]
        by_cases e : b = a
        · left
          rw [e]
          simp
        · unfold upd at hb
          rw [if_neg e] at hb
          rcases h.al hl.1 b hb with h1 | h1
          · exact .inl (List.mem_append_left _ h1)
          · exact .inr h1
      · intro b hb
        rcases hback b hb with rfl | hb
        · exact hG.fo_in v b hf
        · exact h.ob b hb
      · intro b
        show upd p.1.c a 1 b = 0 ∨ upd p.1.c a 1 b = 1 ∨ upd p.1.c a 1 b = 2
        unfold upd
        split
        · exact .inr (.inl rfl)
        · exact h.c3 b
      · intro b hb u hu d hd
        have hb : upd p.1.c a 1 b = 2 := hb
        show upd p.1.c a 1 d ≠ 0
        have h2 : p.1.c b = 2 := by
          unfold upd at hb
          split at hb
          · cases hb
          · exact hb
        have := h.bl b h2 u hu d hd
        rw [hne d this]
        exact this
      · intro b hb
        rcases hback b hb with rfl | hb
        · exact hv b hf
        · exact hmono b (h.rc b hb)
      · intro b hb
        show upd p.1.c a 1 b ≠ 0
        rcases hS' b hb with h1 | h1
        · rw [hne b (h.st b h1)]
          exact h.st b h1
        · rw [hf] at h1
          injection h1 with h1
          rw [← h1, haa]
          decide
      · injection hb with hb
        rw [← hb]
        show upd p.1.c a 1 a ≠ 0
        rw [haa]
        decide
      · have := cnt_upd (c := p.1.c) (y := 1) hG.nd (hG.fo_in v a hf) 1
        rw [hc] at this
        exact this
      · have := cnt_upd (c := p.1.c) (y := 1) hG.nd (hG.fo_in v a hf) 2
        rw [hc] at this
        exact this
    · rw [sh1_old hf hc]
      refine ⟨⟨h.nd, h.gr, h.al, h.ob, h.c3, h.bl, fun a ha => hmono a (h.rc a ha), fun b hb => ?_⟩, fun b hb => by injection hb with hb; rw [← hb]; exact hc, 0, rfl, rfl, rfl⟩
      rcases hS' b hb with h1 | h1
      · exact h.st b h1
      · rw [hf] at h1
        injection h1 with h1
        rw [← h1]
        exact hc
/-- Words of what is reached, shaded. -/
theorem Inv.shA_ (hG : Gd σ) : ∀ (vs : List Int) {p : TS × Nat}, Inv ls σ S X p.1 → (∀ v ∈ vs, ∀ b, fo σ v = some b → Rch ls σ S b) →
    Inv ls σ S X (shA σ room vs p).1 ∧ (∀ v ∈ vs, ∀ b, fo σ v = some b → (shA σ room vs p).1.c b ≠ 0) ∧ ∃ n : Nat, (shA σ room vs p).2 = p.2 + n ∧ cnt (All σ) (shA σ room vs p).1.c 1 = cnt (All σ) p.1.c 1 + n ∧ cnt (All σ) (shA σ room vs p).1.c 2 = cnt (All σ) p.1.c 2
  | [], p, h, _ => ⟨h, fun v hv => (by cases hv), 0, rfl, rfl, rfl⟩
  | v :: r, p, h, hv => by
    obtain ⟨h1, h2, n, h3, h4, h5⟩ := h.sh1_ (room := room) (S' := S) hG (hv v (by simp)) (fun _ h => h) (fun _ h => .inl h)
    obtain ⟨g1, g2, m, g3, g4, g5⟩ := Inv.shA_ hG r h1 fun u hu => hv u (by simp [hu])
    refine ⟨g1, fun u hu b hb => ?_, n + m, ?_, ?_, ?_⟩
    · rcases List.mem_cons.1 hu with rfl | hu
      · have := h2 b hb
        show (shA σ room r (sh1 σ room p u)).1.c b ≠ 0
        rw [shA_keep σ room r _ this]
        exact this
      · exact g2 u hu b hb
    · show (shA σ room r (sh1 σ room p v)).2 = _
      rw [g3, h3]; omega
    · show cnt (All σ) (shA σ room r (sh1 σ room p v)).1.c 1 = _
      rw [g4, h4]; omega
    · show cnt (All σ) (shA σ room r (sh1 σ room p v)).1.c 2 = _
      rw [g5, h5]
def noX : Int → Prop := fun _ => False
/-- Is there nothing left to do? -/
def fin (T : TS) : Prop := T.l = [] ∧ T.lost = false
def mu (σ : HS) (T : TS) : Nat := 2 * ((All σ).length - cnt (All σ) T.c 2) + if T.l = [] ∧ T.lost = true then 1 else 0
theorem cnt_le (A : List Int) (c : Int → Int) (k : Int) : cnt A c k ≤ A.length := List.length_filter_le _ _
/-- What a step does. -/
structure Stp (ls : List (List Int)) (σ : HS) (room : Nat) (S : Int → Prop) (T : TS) : Prop where
  inv : Inv ls σ S noX (stT ls σ room T).1
  mu : mu σ (stT ls σ room T).1 + 1 ≤ mu σ T
  len : (stT ls σ room T).1.l.length ≤ room
  res : ((stT ls σ room T).2 = 0 ∧ T.l = [] ∧ T.lost = true ∧ (stT ls σ room T).1.c = T.c) ∨ ∃ n : Nat, (stT ls σ room T).2 = 1 + (n : Int) ∧ T.l ≠ [] ∧ cnt (All σ) (stT ls σ room T).1.c 1 + 1 = cnt (All σ) T.c 1 + n ∧ cnt (All σ) (stT ls σ room T).1.c 2 = cnt (All σ) T.c 2 + 1
  black : ∀ a, T.c a = 2 → (stT ls σ room T).1.c a = 2
  more : ∀ a, T.c a ≠ 0 → (stT ls σ room T).1.c a ≠ 0
theorem shA_len {σ : HS} {room : Nat} : ∀ (vs : List Int) (p : TS × Nat), p.1.l.length ≤ room → (shA σ room vs p).1.l.length ≤ room
  | [], _, h => h
  | v :: r, p, h => by
    refine shA_len r _ ?_
    unfold sh1
    split
    · exact h
    · split
      · exact putT_len (T := ⟨upd p.1.c _ 1, p.1.l, p.1.lost⟩) h _
      · exact h
theorem Inv.step (hG : Gd σ) {T : TS} (h : Inv ls σ S noX T) (hr : 1 ≤ room) (hl : T.l.length ≤ room) (hf : ¬ fin T) : Stp ls σ room S T := by
  rcases List.eq_nil_or_concat T.l with hn | ⟨l', a, hla⟩
  · have hlost : T.lost = true := by
      rcases hb : T.lost with _ | _
      · exact absurd ⟨hn, hb⟩ hf
      · rfl
    have e : stT ls σ room T = (putT room ⟨T.c, [], false⟩ (grs σ T), 0) := by
      unfold stT
      rw [hn, List.reverse_nil]
      dsimp only
      rw [if_pos hlost]
    have hgrs : ∀ a, a ∈ grs σ T ↔ T.c a = 1 := fun a => by
      unfold grs
      rw [List.mem_filter, beq_iff_eq]
      exact ⟨fun h => h.2, fun h1 => ⟨h.ob a (by rw [h1]; decide), h1⟩⟩
    have hl0 : (putT room ⟨T.c, [], false⟩ (grs σ T)).l = (grs σ T).take room := by
      unfold putT
      simp
    have hlo : (putT room ⟨T.c, [], false⟩ (grs σ T)).lost = decide (room < (grs σ T).length) := by
      unfold putT
      simp
    have hcc : (putT room ⟨T.c, [], false⟩ (grs σ T)).c = T.c := rfl
    refine ⟨?_, ?_, ?_, ?_, ?_, ?_⟩
    · rw [e]
      refine ⟨?_, fun a ha => ?_, fun hlost2 a ha => .inl ?_, h.ob, h.c3, h.bl, h.rc, h.st⟩
      · rw [hl0]
        exact List.Pairwise.sublist (List.take_sublist _ _) (hG.nd.filter _)
      · rw [hl0] at ha
        exact (hgrs a).1 (List.mem_of_mem_take ha)
      · rw [hlo, decide_eq_false_iff_not] at hlost2
        rw [hl0, List.take_of_length_le (by omega)]
        exact (hgrs a).2 ha
    · rw [e]
      unfold mu
      rw [hcc, hl0, hlo, if_pos (⟨hn, hlost⟩ : T.l = [] ∧ T.lost = true), if_neg]
      · exact Nat.le_refl _
      · rintro ⟨h1, h2⟩
        rw [decide_eq_true_eq] at h2
        have := congrArg List.length h1
        rw [List.length_take, List.length_nil] at this
        omega
    · rw [e]
      exact putT_len (T := ⟨T.c, [], false⟩) (Nat.zero_le _) _
    · rw [e]
      exact .inl ⟨rfl, hn, hlost, rfl⟩
    · intro a ha
      rw [e]
      exact ha
    · intro a ha
      rw [e]
      exact ha
  · have hla : T.l = l' ++ [a] := by rw [hla, List.concat_eq_append]
    have e : stT ls σ room T = (⟨upd (shA σ room (ptrs ls σ a) (⟨T.c, l', T.lost⟩, 0)).1.c a 2, (shA σ room (ptrs ls σ a) (⟨T.c, l', T.lost⟩, 0)).1.l, (shA σ room (ptrs ls σ a) (⟨T.c, l', T.lost⟩, 0)).1.lost⟩, 1 + ((shA σ room (ptrs ls σ a) (⟨T.c, l', T.lost⟩, 0)).2 : Int)) := by
      unfold stT
      rw [hla, List.reverse_append]
      simp
    have hca : T.c a = 1 := h.gr a (by rw [hla]; simp)
    have hnd := h.nd
    rw [hla, List.pairwise_append] at hnd
    have h1 : Inv ls σ S (fun b => b = a) (⟨T.c, l', T.lost⟩ : TS) := ⟨hnd.1, fun b hb => h.gr b (by rw [hla]; simp [hb]), fun hl b hb => by
      rcases h.al hl b hb with h1 | h1
      · rw [hla] at h1
        rcases List.mem_append.1 h1 with h1 | h1
        · exact .inl h1
        · exact .inr (List.mem_singleton.1 h1)
      · exact h1.elim, h.ob, h.c3, h.bl, h.rc, h.st⟩
    obtain ⟨i1, i2, n, i3, i4, i5⟩ := Inv.shA_ (room := room) hG (ptrs ls σ a) (p := (⟨T.c, l', T.lost⟩, 0)) h1 (fun v hv b hb => .step (h.rc a (by rw [hca]; decide)) hv hb)
    have hka : (shA σ room (ptrs ls σ a) (⟨T.c, l', T.lost⟩, 0)).1.c a = 1 := (shA_keep σ room (ptrs ls σ a) (⟨T.c, l', T.lost⟩, 0) (by show T.c a ≠ 0; rw [hca]; decide)).trans hca
    have hkeep : ∀ b, T.c b ≠ 0 → (shA σ room (ptrs ls σ a) (⟨T.c, l', T.lost⟩, 0)).1.c b = T.c b := fun b hb => shA_keep σ room (ptrs ls σ a) (⟨T.c, l', T.lost⟩, 0) hb
    have hlen := shA_len (σ := σ) (room := room) (ptrs ls σ a) (⟨T.c, l', T.lost⟩, 0) (by show l'.length ≤ room; rw [hla, List.length_append] at hl; omega)
    have haA := h.ob a (by rw [hca]; decide)
    have hnp : a ∉ (shA σ room (ptrs ls σ a) (⟨T.c, l', T.lost⟩, 0)).1.l := by
      have hq : ∀ (vs : List Int) (p : TS × Nat), a ∉ p.1.l → p.1.c a = 1 → a ∉ (shA σ room vs p).1.l := by
        intro vs
        induction vs with
        | nil => exact fun p h _ => h
        | cons v r ih =>
          intro p hp hc
          refine ih _ ?_ ?_
          · unfold sh1
            split
            · exact hp
            · rename_i b _
              split
              · rename_i hb
                show a ∉ p.1.l ++ [b].take _
                intro hm
                rcases List.mem_append.1 hm with hm | hm
                · exact hp hm
                · have := List.mem_singleton.1 (List.mem_of_mem_take hm)
                  rw [← this, hc] at hb
                  cases hb
              · exact hp
          · rw [sh1_keep σ room p v (by rw [hc]; decide)]
            exact hc
      refine hq _ _ ?_ hca
      intro hm
      exact hnd.2.2 a hm a (by simp) rfl
    have c1 := cnt_upd (c := (shA σ room (ptrs ls σ a) (⟨T.c, l', T.lost⟩, 0)).1.c) (y := 2) hG.nd haA 1
    have c2 := cnt_upd (c := (shA σ room (ptrs ls σ a) (⟨T.c, l', T.lost⟩, 0)).1.c) (y := 2) hG.nd haA 2
    rw [hka] at c1 c2
    generalize shA σ room (ptrs ls σ a) (⟨T.c, l', T.lost⟩, 0) = p at *
    have i3 : p.2 = 0 + n := i3
    have i4 : cnt (All σ) p.1.c 1 = cnt (All σ) T.c 1 + n := i4
    have i5 : cnt (All σ) p.1.c 2 = cnt (All σ) T.c 2 := i5
    have hc1 : cnt (All σ) (upd p.1.c a 2) 1 + 1 = cnt (All σ) T.c 1 + n := by
      have c1 : cnt (All σ) (upd p.1.c a 2) 1 + 1 = cnt (All σ) p.1.c 1 := c1
      omega
    have hc2 : cnt (All σ) (upd p.1.c a 2) 2 = cnt (All σ) T.c 2 + 1 := by
      have c2 : cnt (All σ) (upd p.1.c a 2) 2 = cnt (All σ) p.1.c 2 + 1 := c2
      omega
    have hup : ∀ b, p.1.c b ≠ 0 → upd p.1.c a 2 b ≠ 0 := fun b hb => by
      unfold upd
      split
      · decide
      · exact hb
    have hdn : ∀ b, upd p.1.c a 2 b ≠ 0 → p.1.c b ≠ 0 := fun b hb => by
      unfold upd at hb
      split at hb
      · rename_i e
        rw [e, hka]
        decide
      · exact hb
    refine ⟨?_, ?_, ?_, ?_, ?_, ?_⟩
    · rw [e]
      refine ⟨i1.nd, fun b hb => ?_, fun hlost b hb => .inl ?_, fun b hb => i1.ob b (hdn b hb), fun b => ?_, fun b hb v hv d hd => ?_, fun b hb => i1.rc b (hdn b hb), fun b hb => hup b (i1.st b hb)⟩
      · show upd p.1.c a 2 b = 1
        unfold upd
        rw [if_neg (fun e : b = a => hnp (e ▸ hb))]
        exact i1.gr b hb
      · have hb : upd p.1.c a 2 b = 1 := hb
        unfold upd at hb
        split at hb
        · cases hb
        · rename_i hba
          rcases i1.al hlost b hb with h1 | h1
          · exact h1
          · exact absurd h1 hba
      · show upd p.1.c a 2 b = 0 ∨ upd p.1.c a 2 b = 1 ∨ upd p.1.c a 2 b = 2
        unfold upd
        split
        · exact .inr (.inr rfl)
        · exact i1.c3 b
      · refine hup d ?_
        by_cases hba : b = a
        · subst hba
          exact i2 v hv d hd
        · have hb : upd p.1.c a 2 b = 2 := hb
          unfold upd at hb
          rw [if_neg hba] at hb
          exact i1.bl b hb v hv d hd
    · rw [e]
      unfold mu
      dsimp only
      rw [hc2]
      have h2 := cnt_le (All σ) (upd p.1.c a 2) 2
      rw [hc2] at h2
      rw [if_neg (fun hh : T.l = [] ∧ T.lost = true => by rw [hla] at hh; simp at hh)]
      split <;> omega
    · rw [e]
      exact hlen
    · rw [e]
      right
      refine ⟨n, ?_, by rw [hla]; simp, hc1, hc2⟩
      show 1 + (p.2 : Int) = 1 + (n : Int)
      omega
    · intro b hb
      rw [e]
      show upd p.1.c a 2 b = 2
      unfold upd
      split
      · rfl
      · rw [hkeep b (by rw [hb]; decide)]
        exact hb
    · intro b hb
      rw [e]
      refine hup b ?_
      rw [hkeep b hb]
      exact hb
/-- At the end just what is reached is Black, and nothing Grey. -/
theorem Inv.end_ {T : TS} (h : Inv ls σ S noX T) (hf : fin T) (a : Int) : T.c a ≠ 1 ∧ (T.c a = 2 ↔ Rch ls σ S a) := by
  have hno : ∀ a, T.c a ≠ 1 := fun a ha => by
    rcases h.al hf.2 a ha with h1 | h1
    · rw [hf.1] at h1; cases h1
    · exact h1
  refine ⟨hno a, fun ha => h.rc a (by rw [ha]; decide), fun ha => ?_⟩
  have h2 : ∀ b, T.c b ≠ 0 → T.c b = 2 := fun b hb => by
    rcases h.c3 b with h1 | h1 | h1
    · exact absurd h1 hb
    · exact absurd h1 (hno b)
    · exact h1
  induction ha with
  | base hs => exact h2 _ (h.st _ hs)
  | step _ hv hb ih => exact h2 _ (h.bl _ ih _ hv _ hb)
end
end Go.Proofs.YtoajbjeiplolnaaDoorR.Tn
