/- Sets of small numbers as words of 64 bits: plain lemmas: how many there are; one put in, one taken out. No walk. -/
import Derived.Test.YtjlbmelpoaffpaaDoorSv2
namespace Go.Proofs.YtjlbmelpoaffpaaDoor.Sv
open Go.RowKit Bit Wd
set_option linter.unusedSimpArgs false
set_option linter.unusedVariables false

/-- A set of numbers below n, in words: what holds without a world. -/
structure Ok (n : Nat) (W : List Nat) : Prop where
  hn : n ≤ 4096
  hw : W.length = (n + 63) / 64
  lt : ∀ (k x : Nat), W[k]? = some x → x < 18446744073709551616
  inn : ∀ j, has W j = true → j < n
theorem SieveAt.ok {w : World} {b g n : Nat} {W : List Nat} (h : SieveAt w b g n W) : Ok n W := ⟨h.hn, h.hw, h.lt, h.inn⟩
theorem Ok.word {n : Nat} {W : List Nat} (h : Ok n W) {j : Nat} (hj : j < n) : ∃ x, W[j / 64]? = some x ∧ x < 18446744073709551616 ∧ j / 64 < W.length := by
  have hl : j / 64 < W.length := by rw [h.hw]; omega
  exact ⟨W[j / 64], List.getElem?_eq_getElem hl, h.lt _ _ (List.getElem?_eq_getElem hl), hl⟩
theorem has_word {W : List Nat} {k i x : Nat} (h : W[k]? = some x) (hi : i < 64) : has W (64 * k + i) = x.testBit i := by
  have e1 : (64 * k + i) / 64 = k := by omega
  have e2 : (64 * k + i) % 64 = i := by omega
  unfold has
  rw [e1, e2]
  simp [List.getD, h]
theorem sl_words (W : List Nat) : ∀ k, k ≤ W.length → (sl (64 * k) (has W)).length = cnt (W.take k)
  | 0, _ => by simp [sl, cnt]
  | k + 1, h => by
    have hx : W[k]? = some W[k] := List.getElem?_eq_getElem (by omega)
    rw [cnt_succ hx, ← sl_words W k (by omega)]
    unfold pop
    rw [tot_sl]
    unfold sl
    rw [show 64 * (k + 1) = 64 * k + 64 by omega, List.range_add, List.filter_append, List.length_append, List.filter_map, List.length_map]
    congr 2
    apply List.filter_congr
    intro i hi
    exact has_word hx (List.mem_range.1 hi)
theorem cnt_sl {n : Nat} {W : List Nat} (h : Ok n W) : cnt W = (sl n (has W)).length := by
  have h1 := sl_words W W.length (Nat.le_refl _)
  rw [List.take_length] at h1
  rw [← h1, sl_short (n := n) (by rw [h.hw]; omega) (fun i hi => by
    cases e : has W i
    · rfl
    · have := h.inn i e; omega)]
theorem sl_ins {p q : Nat → Bool} {k : Nat} : ∀ {n : Nat}, k < n → p k = false → (∀ i, i < n → q i = (p i || decide (i = k))) → (sl n q).length = (sl n p).length + 1
  | 0, h, _, _ => by omega
  | n + 1, hk, hp, hq => by
    have hs : ∀ r : Nat → Bool, (sl (n + 1) r).length = (sl n r).length + if r n then 1 else 0 := by
      intro r
      unfold sl
      rw [List.range_succ, List.filter_append, List.length_append]
      cases h : r n <;> simp [h]
    rw [hs, hs]
    by_cases e : n = k
    · subst e
      have : sl n q = sl n p := sl_congr fun i hi => by
        rw [hq i (by omega)]
        have : ¬ i = n := by omega
        simp [this]
      rw [this, hq n (by omega), hp]
      simp
    · have h1 := sl_ins (n := n) (by omega) hp (fun i hi => hq i (by omega))
      rw [h1, hq n (by omega)]
      simp [e]
      omega
/-- One number put in, or taken out. -/
def flip1 (on : Bool) (W : List Nat) (x : Nat) : List Nat :=
  W.set (x / 64) (if on then W.getD (x / 64) 0 ||| 2 ^ (x % 64) else W.getD (x / 64) 0 &&& (18446744073709551615 - 2 ^ (x % 64)))
theorem flip1_len (on : Bool) (W : List Nat) (x : Nat) : (flip1 on W x).length = W.length := by simp [flip1]
theorem andn_bit (a b i : Nat) (ha : a < 18446744073709551616) (hb : b < 18446744073709551616) : (a &&& (18446744073709551615 - b)).testBit i = (a.testBit i && !b.testBit i) := by
  rw [Nat.testBit_and, comp_bit b i hb]
  by_cases hi : i < 64
  · simp [hi]
  · rw [high_bit (i := i) ha (by omega)]; simp
theorem has_set {W : List Nat} {k y : Nat} (hl : k < W.length) (j : Nat) : has (W.set k y) j = if j / 64 = k then y.testBit (j % 64) else has W j := by
  unfold has
  by_cases e : j / 64 = k
  · rw [if_pos e, e]
    simp [List.getD, hl]
  · rw [if_neg e]
    have h1 : (W.set k y)[j / 64]? = W[j / 64]? := List.getElem?_set_ne (fun h => e h.symm)
    simp only [List.getD_eq_getElem?_getD, h1]
theorem has_flip {n : Nat} {W : List Nat} (h : Ok n W) (on : Bool) {x : Nat} (hx : x < n) (j : Nat) : has (flip1 on W x) j = if j = x then on else has W j := by
  obtain ⟨v, hv, hv2, hl⟩ := h.word hx
  have hm := Nat.mod_lt x (show 0 < 64 by omega)
  have h2 : W.getD (x / 64) 0 = v := by simp [List.getD, hv]
  unfold flip1
  rw [has_set hl, h2]
  by_cases e : j / 64 = x / 64
  · have hj : has W j = v.testBit (j % 64) := by rw [has_get (x := v) (by rw [e]; exact hv)]
    have hjx : (j % 64 = x % 64) ↔ j = x := by omega
    rw [if_pos e, hj]
    cases on
    · simp only [Bool.false_eq_true, if_false]
      rw [andn_bit _ _ _ hv2 (pow_lt hm), pow_bit]
      by_cases hj : j = x
      · subst hj; simp
      · have : ¬ x % 64 = j % 64 := fun e' => hj (hjx.1 e'.symm)
        simp [this, hj]
    · simp only [if_true]
      rw [Nat.testBit_or, pow_bit]
      by_cases hj : j = x
      · subst hj; simp
      · have : ¬ x % 64 = j % 64 := fun e' => hj (hjx.1 e'.symm)
        simp [this, hj]
  · have hj : ¬ j = x := fun e' => e (by rw [e'])
    rw [if_neg e, if_neg hj]
theorem flip_lt {n : Nat} {W : List Nat} (h : Ok n W) (on : Bool) {x : Nat} (hx : x < n) : ∀ (k v : Nat), (flip1 on W x)[k]? = some v → v < 18446744073709551616 := by
  intro k v hk
  obtain ⟨u, hu, hu2, hl⟩ := h.word hx
  have hm := Nat.mod_lt x (show 0 < 64 by omega)
  unfold flip1 at hk
  by_cases e : x / 64 = k
  · subst e
    rw [List.getElem?_set_self hl] at hk
    have h2 : W.getD (x / 64) 0 = u := by simp [List.getD, hu]
    rw [h2] at hk
    have hk := Option.some.inj hk
    subst hk
    cases on
    · exact and_lt hu2
    · exact or_lt hu2 (pow_lt hm)
  · rw [List.getElem?_set_ne e] at hk
    exact h.lt k v hk
theorem flip_ok {n : Nat} {W : List Nat} (h : Ok n W) (on : Bool) {x : Nat} (hx : x < n) : Ok n (flip1 on W x) :=
  ⟨h.hn, by rw [flip1_len]; exact h.hw, flip_lt h on hx, fun j hj => by
    rw [has_flip h on hx] at hj
    by_cases e : j = x
    · omega
    · rw [if_neg e] at hj; exact h.inn j hj⟩
theorem flip_cnt {n : Nat} {W : List Nat} (h : Ok n W) {x : Nat} (hx : x < n) : (has W x = false → cnt (flip1 true W x) = cnt W + 1) ∧ (has W x = true → cnt (flip1 false W x) + 1 = cnt W) := by
  constructor
  · intro hw
    rw [cnt_sl (flip_ok h true hx), cnt_sl h]
    exact sl_ins hx hw fun i _ => by
      rw [has_flip h true hx]
      by_cases e : i = x <;> simp [e]
  · intro hw
    rw [cnt_sl (flip_ok h false hx), cnt_sl h]
    refine (sl_ins (k := x) hx (by rw [has_flip h false hx]; simp) fun i _ => ?_).symm
    rw [has_flip h false hx]
    by_cases e : i = x
    · subst e; simp [hw]
    · simp [e]
/-- What a step over a list does: the words, and how many were turned. -/
def step1 (n : Nat) (on : Bool) (s : List Nat × Nat) (x : Int) : List Nat × Nat := if 0 ≤ x ∧ x < (n : Int) ∧ has s.1 x.toNat = !on then (flip1 on s.1 x.toNat, s.2 + 1) else s
def runL (n : Nat) (on : Bool) (W : List Nat) (l : List Int) : List Nat × Nat := l.foldl (step1 n on) (W, 0)
theorem runL_take {n : Nat} {on : Bool} {W : List Nat} {l : List Int} {k : Nat} {x : Int} (h : l[k]? = some x) : runL n on W (l.take (k + 1)) = step1 n on (runL n on W (l.take k)) x := by
  unfold runL
  rw [List.take_add_one, h, List.foldl_append]
  rfl
/-- Behind a run over a list: the words are a set; who is on the list is in it (or not), all else is as it was; as many were turned as the count says. -/
theorem runL_ok {n : Nat} {W : List Nat} (h : Ok n W) (on : Bool) : ∀ l : List Int, Ok n (runL n on W l).1 ∧ (∀ j, has (runL n on W l).1 j = if j < n ∧ (j : Int) ∈ l then on else has W j) ∧
    (if on then cnt (runL n on W l).1 = cnt W + (runL n on W l).2 else cnt (runL n on W l).1 + (runL n on W l).2 = cnt W) ∧ (runL n on W l).2 ≤ l.length := by
  intro l
  suffices hs : ∀ (l : List Int) (s : List Nat × Nat), Ok n s.1 → Ok n (l.foldl (step1 n on) s).1 ∧ (∀ j, has (l.foldl (step1 n on) s).1 j = if j < n ∧ (j : Int) ∈ l then on else has s.1 j) ∧
      (if on then cnt (l.foldl (step1 n on) s).1 + s.2 = cnt s.1 + (l.foldl (step1 n on) s).2 else cnt (l.foldl (step1 n on) s).1 + (l.foldl (step1 n on) s).2 = cnt s.1 + s.2) ∧ (l.foldl (step1 n on) s).2 ≤ s.2 + l.length by
    have := hs l (W, 0) h
    unfold runL
    refine ⟨this.1, this.2.1, ?_, by simpa using this.2.2.2⟩
    have h3 := this.2.2.1
    cases on <;> simpa using h3
  intro l
  induction l with
  | nil => intro s hs; refine ⟨hs, fun j => by simp, by cases on <;> simp, by simp⟩
  | cons x l ih =>
    intro s hs
    rw [List.foldl_cons]
    by_cases hc : 0 ≤ x ∧ x < (n : Int) ∧ has s.1 x.toNat = !on
    · have e : step1 n on s x = (flip1 on s.1 x.toNat, s.2 + 1) := by unfold step1; rw [if_pos hc]
      rw [e]
      have hx : x.toNat < n := by omega
      obtain ⟨i1, i2, i3, i4⟩ := ih (flip1 on s.1 x.toNat, s.2 + 1) (flip_ok hs on hx)
      refine ⟨i1, fun j => ?_, ?_, by simp at i4 ⊢; omega⟩
      · rw [i2 j]
        by_cases h1 : j < n ∧ (j : Int) ∈ l
        · rw [if_pos h1, if_pos ⟨h1.1, List.mem_cons_of_mem _ h1.2⟩]
        · rw [if_neg h1, has_flip hs on hx]
          by_cases e2 : j = x.toNat
          · rw [if_pos e2, if_pos ⟨by omega, by rw [show (j : Int) = x by omega]; exact List.mem_cons_self⟩]
          · rw [if_neg e2, if_neg]
            rintro ⟨h2, h3⟩
            rcases List.mem_cons.1 h3 with h3 | h3
            · omega
            · exact h1 ⟨h2, h3⟩
      · have hcn := flip_cnt hs hx
        cases on
        · have := hcn.2 (by simpa using hc.2.2)
          simp at i3 ⊢
          omega
        · have := hcn.1 (by simpa using hc.2.2)
          simp at i3 ⊢
          omega
    · have e : step1 n on s x = s := by unfold step1; rw [if_neg hc]
      rw [e]
      obtain ⟨i1, i2, i3, i4⟩ := ih s hs
      refine ⟨i1, fun j => ?_, i3, by simp; omega⟩
      rw [i2 j]
      by_cases h1 : j < n ∧ (j : Int) ∈ l
      · rw [if_pos h1, if_pos ⟨h1.1, List.mem_cons_of_mem _ h1.2⟩]
      · rw [if_neg h1]
        by_cases e2 : j < n ∧ (j : Int) ∈ x :: l
        · rw [if_pos e2]
          have : (j : Int) = x := by
            rcases List.mem_cons.1 e2.2 with h3 | h3
            · exact h3
            · exact absurd ⟨e2.1, h3⟩ h1
          have hxj : x.toNat = j := by omega
          cases hv : has s.1 j
          · cases on
            · rfl
            · exact absurd ⟨by omega, by omega, by rw [hxj, hv]; rfl⟩ hc
          · cases on
            · exact absurd ⟨by omega, by omega, by rw [hxj, hv]; rfl⟩ hc
            · rfl
        · rw [if_neg e2]
/-- The empty set. -/
theorem zero_has (k j : Nat) : has (List.replicate k 0) j = false := by
  unfold has
  by_cases h : j / 64 < k <;> simp [List.getD, h]
theorem zero_ok {n : Nat} (hn : n ≤ 4096) : Ok n (List.replicate ((n + 63) / 64) 0) :=
  ⟨hn, by simp, fun k x h => by rw [List.getElem?_replicate] at h; split at h <;> simp at h; omega, fun j h => by rw [zero_has] at h; cases h⟩
end Go.Proofs.YtjlbmelpoaffpaaDoor.Sv
