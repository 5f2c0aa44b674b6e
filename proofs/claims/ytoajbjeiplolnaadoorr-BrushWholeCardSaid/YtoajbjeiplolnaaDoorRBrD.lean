/- A heap being filled, step by step: what comes is told by the shapes alone (plain). -/
import Derived.Test.YtoajbjeiplolnaaDoorRHSw
namespace Go.Proofs.YtoajbjeiplolnaaDoorR.Hp
open Go.RowKit Pg Ar Tm
set_option linter.unusedSimpArgs false
set_option linter.unusedVariables false

/-- What a heap's pages are, but for where they lie. -/
abbrev Abs := List (Option (Int × Nat × Nat))
def absP (p : PM) : Int × Nat × Nat := (p.c, p.n, p.U)
def abs (σ : HS) : Abs := σ.ps.map fun o => o.map absP
theorem abs_at (σ : HS) (k : Nat) : (abs σ)[k]? = (σ.ps[k]?).map fun o => o.map absP := by simp [abs]
theorem abs_set {σ σ' : HS} {k : Nat} {p : PM} (h : σ'.ps = σ.ps.set k (some p)) : abs σ' = (abs σ).set k (some (absP p)) := by
  unfold abs
  rw [h, List.map_set]
  rfl
def FullAt (A : Abs) (i : Nat) (c : Int) : Prop := ∀ n U, A[i]? = some (some (c, n, U)) → ∀ s, s < n → U.testBit s = true
def NoSlot (A : Abs) (c : Int) : Prop := ∀ i, i < A.length → FullAt A i c
def AlR (A : Abs) (c : Int) (A' : Abs) (a : Int) : Prop := ∃ (k s n U z : Nat), (∀ i, i < k → FullAt A i c) ∧ A[k]? = some (some (c, n, U)) ∧ s < n ∧ U.testBit s = false ∧ (∀ i, i < s → U.testBit i = true) ∧ Cls.csz c = (z : Int) ∧ A' = A.set k (some (c, n, ins U s)) ∧ a = ((1048576 + 32 * k + s * z : Nat) : Int)
def FrR (A : Abs) (c : Int) (A' : Abs) : Prop := ∃ k : Nat, A[k]? = some none ∧ (∀ i, i < k → A[i]? ≠ some none) ∧ A' = A.set k (some (c, (Cls.csl c).toNat, 0))
def NoNone (A : Abs) : Prop := ∀ i : Nat, i < A.length → A[i]? ≠ some none
theorem full_abs {σ : HS} {c : Int} {k : Nat} (h : Full σ.ps c k) : ∀ i, i < k → FullAt (abs σ) i c := by
  intro i hi n U e s hs
  rw [abs_at] at e
  rcases hp : σ.ps[i]? with _ | (_ | p)
  · rw [hp] at e; cases e
  · rw [hp] at e; cases e
  · rw [hp] at e
    have e : some (some (absP p)) = some (some (c, n, U)) := e
    injection e with e
    injection e with e
    injection e with e1 e2
    injection e2 with e2 e3
    rw [← e3]
    exact h i hi p hp e1 s (by rw [e2]; exact hs)
theorem noslot_abs {σ : HS} {c : Int} (h : Full σ.ps c σ.ps.length) : NoSlot (abs σ) c := fun i hi => full_abs h i (by simpa [abs] using hi)
theorem AlR.uniq {A A' A'' : Abs} {c a b : Int} (h : AlR A c A' a) (h' : AlR A c A'' b) : A' = A'' ∧ a = b := by
  obtain ⟨k, s, n, U, z, h1, h2, h3, h4, h5, h6, rfl, rfl⟩ := h
  obtain ⟨k', s', n', U', z', g1, g2, g3, g4, g5, g6, rfl, rfl⟩ := h'
  have hk : k = k' := by
    rcases Nat.lt_trichotomy k k' with hlt | e | hlt
    · have := g1 k hlt n U h2 s h3
      rw [h4] at this; cases this
    · exact e
    · have := h1 k' hlt n' U' g2 s' g3
      rw [g4] at this; cases this
  subst hk
  rw [h2] at g2
  injection g2 with g2
  injection g2 with g2
  injection g2 with _ g2
  injection g2 with e1 e2
  subst e1 e2
  have hs : s = s' := by
    rcases Nat.lt_trichotomy s s' with hlt | e | hlt
    · have := g5 s hlt
      rw [h4] at this; cases this
    · exact e
    · have := h5 s' hlt
      rw [g4] at this; cases this
  subst hs
  obtain rfl : z = z' := by omega
  exact ⟨rfl, rfl⟩
theorem AlR.not {A A' : Abs} {c a : Int} (h : AlR A c A' a) (h' : NoSlot A c) : False := by
  obtain ⟨k, s, n, U, z, h1, h2, h3, h4, _⟩ := h
  have := h' k (List.getElem?_eq_some_iff.1 h2).1 n U h2 s h3
  rw [h4] at this; cases this
theorem FrR.uniq {A A' A'' : Abs} {c : Int} (h : FrR A c A') (h' : FrR A c A'') : A' = A'' := by
  obtain ⟨k, h1, h2, rfl⟩ := h
  obtain ⟨k', g1, g2, rfl⟩ := h'
  have hk : k = k' := by
    rcases Nat.lt_trichotomy k k' with hlt | e | hlt
    · exact absurd h1 (g2 k hlt)
    · exact e
    · exact absurd g1 (h2 k' hlt)
  subst hk
  rfl
theorem FrR.not {A A' : Abs} {c : Int} (h : FrR A c A') (h' : NoNone A) : False := by
  obtain ⟨k, h1, _⟩ := h
  exact h' k (List.getElem?_eq_some_iff.1 h1).1 h1
/-- One round: an object, behind a page that was taken, or not. -/
def StepR (c : Int) (A A' : Abs) (r : List Int) : Prop :=
  (∃ a, AlR A c A' a ∧ r = [a]) ∨ (NoSlot A c ∧ ((NoNone A ∧ A' = A ∧ r = []) ∨ ∃ A1, FrR A c A1 ∧ ((∃ a, AlR A1 c A' a ∧ r = [a]) ∨ (NoSlot A1 c ∧ A' = A1 ∧ r = []))))
theorem StepR.uniq {c : Int} {A A' A'' : Abs} {r r' : List Int} (h : StepR c A A' r) (h' : StepR c A A'' r') : A' = A'' ∧ r = r' := by
  rcases h with ⟨a, h, rfl⟩ | ⟨hn, h⟩ <;> rcases h' with ⟨b, h', rfl⟩ | ⟨hn', h'⟩
  · obtain ⟨e1, e2⟩ := h.uniq h'
    exact ⟨e1, by rw [e2]⟩
  · exact (h.not hn').elim
  · exact (h'.not hn).elim
  · rcases h with ⟨h0, rfl, rfl⟩ | ⟨A1, hf, h⟩ <;> rcases h' with ⟨h0', rfl, rfl⟩ | ⟨A2, hf', h'⟩
    · exact ⟨rfl, rfl⟩
    · exact (hf'.not h0).elim
    · exact (hf.not h0').elim
    · have e := hf.uniq hf'
      subst e
      rcases h with ⟨a, h, rfl⟩ | ⟨hm, rfl, rfl⟩ <;> rcases h' with ⟨b, h', rfl⟩ | ⟨hm', rfl, rfl⟩
      · obtain ⟨e1, e2⟩ := h.uniq h'
        exact ⟨e1, by rw [e2]⟩
      · exact (h.not hm').elim
      · exact (h'.not hm).elim
      · exact ⟨rfl, rfl⟩
/-- So many rounds. -/
def Run (ls : List (List Int)) (P : Nat) : Nat → Abs → List Int → Prop
  | 0, A, L => A = List.replicate P none ∧ L = []
  | i + 1, A, L => ∃ A0 L0 r, Run ls P i A0 L0 ∧ StepR (Cls.cof ((ls.getD (i % ls.length) []).length : Int)) A0 A r ∧ L = L0 ++ r
theorem Run.uniq {ls : List (List Int)} {P : Nat} : ∀ {i : Nat} {A A' : Abs} {L L' : List Int}, Run ls P i A L → Run ls P i A' L' → A = A' ∧ L = L'
  | 0, A, A', L, L', h, h' => ⟨h.1.trans h'.1.symm, h.2.trans h'.2.symm⟩
  | i + 1, A, A', L, L', h, h' => by
    obtain ⟨A0, L0, r, h1, h2, rfl⟩ := h
    obtain ⟨A1, L1, r', g1, g2, rfl⟩ := h'
    obtain ⟨rfl, rfl⟩ := Run.uniq h1 g1
    obtain ⟨rfl, rfl⟩ := h2.uniq g2
    exact ⟨rfl, rfl⟩
/-- How far a round has come: nothing was made (f is 5), or one was. -/
def EndB (w wr : World) (B : HB) (ls : List (List Int)) (P i : Nat) (L : List Int) (A : Option Addr) (cc : Nat) (c : Int) (A0 : Abs) (a f : Int) : Prop :=
  (f = 5 ∧ ∃ σ, Fill w wr B ls P i L σ ∧ LR w wr B σ L A cc ∧ StepR c A0 (abs σ) []) ∨ (f = 0 ∧ ∃ σ, Fill w wr B ls P (i + 1) (L ++ [a]) σ ∧ LR w wr B σ L A cc ∧ StepR c A0 (abs σ) [a])
def Mid (w wr : World) (B : HB) (ls : List (List Int)) (P i : Nat) (L : List Int) (A : Option Addr) (cc : Nat) (c : Int) (A0 : Abs) (a f : Int) : Prop :=
  (f = 5 ∧ ∃ σ, Fill w wr B ls P i L σ ∧ LR w wr B σ L A cc ∧ abs σ = A0 ∧ NoSlot A0 c) ∨ (f = 0 ∧ ∃ σ, Fill w wr B ls P (i + 1) (L ++ [a]) σ ∧ LR w wr B σ L A cc ∧ AlR A0 c (abs σ) a)
theorem mid_al {w wr w' : World} {B : HB} {ls : List (List Int)} {P i : Nat} {L : List Int} {A : Option Addr} {cc : Nat} {σ : HS} {sh : Nat} {l : List Int} {e : Ending} (h0 : 0 < w.heap.size) (h : Fill w wr B ls P i L σ) (hl : LR w wr B σ L A cc) (h16 : l.length ≤ 16)
    (ha : Al B ls σ sh l.length false wr e w') : ∃ a f, e = .returned (.tuple #[.int .i64 a, .int .i64 f]) ∧ Mid w w' B ls P i L A cc (Cls.cof (l.length : Int)) (abs σ) a f := by
  rcases ha with ⟨he, h1, h2, h3⟩ | ⟨k, p, s, z, he, h2, h3, h4, h5, h6, h7, h8, h9, h10⟩
  · exact ⟨_, _, he, .inl ⟨rfl, σ, h.call h3, hl.call h3, rfl, noslot_abs h1⟩⟩
  · obtain ⟨n1, n2, n3, n4⟩ := al_num h.hw.hp h3 h5 h6 h7 h9
    refine ⟨_, _, he, .inr ⟨rfl, made σ k p s z sh l.length false, ⟨h.hw.step h0 h9 h10 (foot_al h3), ?_, ?_, ?_, ?_, ?_, ?_, ?_, ?_⟩, hl.kept h10 (foot_al h3) (fun i hi => ?_), ?_⟩⟩
    · show (σ.ps.set k _).length = P
      rw [List.length_set]
      exact h.len
    · show 0 ≤ σ.sr + 1
      have := h.sr0
      omega
    · show σ.sr + 1 ≤ ((i + 1 : Nat) : Int)
      have := h.sr
      omega
    · show 0 ≤ σ.gv + (l.length : Int)
      have := h.gv0
      omega
    · show σ.gv + (l.length : Int) ≤ ((16 * (i + 1) : Nat) : Int)
      have := h.gv
      omega
    · intro k' s' t ht
      have hp' : put σ.M k s (some ((sh : Int), σ.sr + 1, if false then 2 else 0)) k' s' = some t := ht
      clear ht
      unfold put at hp'
      split at hp'
      · obtain rfl := Option.some.inj hp'
        rfl
      · exact h.wh k' s' t hp'
    · rw [n1, h.num, List.length_append]
      rfl
    · intro a ha
      rcases List.mem_append.1 ha with ha | ha
      · obtain ⟨q, hq⟩ := h.at_ a ha
        exact ⟨q, n3 a q hq⟩
      · rw [List.mem_singleton.1 ha]
        exact ⟨_, n2⟩
    · rcases foot_set (σ := σ) rfl hi with h | ⟨q, hq, rfl⟩
      · exact .inl h
      · obtain rfl := Option.some.inj hq
        exact .inl (show HFoot B σ p.b from foot_pg h3)
    · refine ⟨k, s, p.n, p.U, z, full_abs h2, ?_, h6, h7, h8, by rw [← h4]; exact h5, ?_, rfl⟩
      · rw [abs_at, h3, ← h4]
        rfl
      · rw [abs_set (σ := σ) (σ' := made σ k p s z sh l.length false) rfl, ← h4]
        rfl
/-- What Fresh may have done. -/
theorem mid_fr {w wr w' : World} {B : HB} {ls : List (List Int)} {P i : Nat} {L : List Int} {A : Option Addr} {cc : Nat} {σ : HS} {cl : Int} {n : Nat} {e : Ending} (h0 : 0 < w.heap.size) (h : Fill w wr B ls P i L σ) (hl : LR w wr B σ L A cc) (hn : Cls.csl cl = (n : Int))
    (hf : Fr B ls σ cl n wr e w') : ∃ b, e = .returned (.bool b) ∧ ∃ σ', Fill w w' B ls P i L σ' ∧ LR w w' B σ' L A cc ∧ ((b = false ∧ abs σ' = abs σ ∧ NoNone (abs σ)) ∨ (b = true ∧ FrR (abs σ) cl (abs σ'))) := by
  have hnone : ∀ i : Nat, (abs σ)[i]? = some none → σ.ps[i]? = some none := by
    intro i e
    rw [abs_at] at e
    rcases hp : σ.ps[i]? with _ | (_ | p)
    · rw [hp] at e; cases e
    · rfl
    · rw [hp] at e; cases e
  rcases hf with ⟨he, h1, _, hb⟩ | ⟨k, bp, he, h1, h2, h3, h4, h5⟩
  · exact ⟨_, he, σ, h.call hb, hl.call hb, .inl ⟨rfl, rfl, fun i hi e => h1 i (by simpa [abs] using hi) (hnone i e)⟩⟩
  · obtain ⟨n1, n2⟩ := fr_num h.hw.hp h1 h4
    refine ⟨_, he, { σ with ps := σ.ps.set k (some ⟨bp, cl, n, 0, 0⟩) }, ⟨h.hw.step h0 h4 h5 (fun i hi => hi ▸ foot_gp B _), ?_, h.sr0, h.sr, h.gv0, h.gv, h.wh, n1.trans h.num, ?_⟩, hl.kept h5 (fun i hi => hi ▸ foot_gp B _) (fun i hi => ?_), .inr ⟨rfl, k, ?_, fun i hi e => h2 i hi (hnone i e), ?_⟩⟩
    · show (σ.ps.set k _).length = P
      rw [List.length_set]
      exact h.len
    · intro a ha
      obtain ⟨q, hq⟩ := h.at_ a ha
      exact ⟨q, n2 a q hq⟩
    · rcases foot_set (σ := σ) rfl hi with h | ⟨q, hq, rfl⟩
      · exact .inl h
      · obtain rfl := Option.some.inj hq
        exact .inr h3
    · rw [abs_at, h1]
      rfl
    · rw [abs_set (σ := σ) rfl]
      congr 2
      show (cl, n, 0) = _
      rw [hn]
      rfl
end Go.Proofs.YtoajbjeiplolnaaDoorR.Hp
