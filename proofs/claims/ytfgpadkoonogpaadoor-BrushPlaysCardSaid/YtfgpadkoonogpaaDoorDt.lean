/- Two heaps that are one but for where their pages lie: what is asked of the one is as of the other (plain). -/
import Derived.Test.YtfgpadkoonogpaaDoorHSw
namespace Go.Proofs.YtfgpadkoonogpaaDoor.Hp
open Go.RowKit Pg Ar Tm
set_option linter.unusedSimpArgs false
set_option linter.unusedVariables false

/-- A page, but for where it lies, and its marks. -/
def er (p : PM) : PM := ⟨0, p.c, p.n, p.U, 0⟩
def erp (ps : List (Option PM)) : List (Option PM) := ps.map fun o => o.map er
theorem erp_len (ps : List (Option PM)) : (erp ps).length = ps.length := by simp [erp]
theorem erp_at (ps : List (Option PM)) (k : Nat) : (erp ps)[k]? = (ps[k]?).map fun o => o.map er := by simp [erp]
theorem erp_set (ps : List (Option PM)) (k : Nat) (x : Option PM) : erp (ps.set k x) = (erp ps).set k (x.map er) := by simp [erp, List.map_set]
theorem get_er (ps : List (Option PM)) (k : Int) : Ar.get (erp ps) k = (Ar.get ps k).map er := by
  unfold Ar.get
  split
  · rw [erp_at]
    rcases ps[k.toNat]? with _ | (_ | p) <;> rfl
  · rfl
theorem base_er (ps : List (Option PM)) (k s : Int) : base (erp ps) k s = base ps k s := by
  unfold base
  rw [get_er]
  rcases Ar.get ps k with _ | p <;> rfl
theorem slot_er (ps : List (Option PM)) (a : Int) : slot (erp ps) a = (slot ps a).map fun x => (x.1, er x.2.1, x.2.2) := by
  unfold slot
  split
  · rfl
  · rw [get_er]
    rcases Ar.get ps ((a - 1048576) / 32) with _ | p
    · rfl
    · dsimp only [Option.map_some, er]
      split <;> rfl
theorem fbase_er (ps : List (Option PM)) (a : Int) : fbase (erp ps) a = fbase ps a := by
  unfold fbase
  rw [slot_er]
  rcases slot ps a with _ | ⟨k, p, s⟩
  · rfl
  · exact base_er ps k s
theorem hat_er (σ : HS) (a : Int) : hat { σ with ps := erp σ.ps } a = hat σ a := by
  unfold hat
  dsimp only
  rw [slot_er]
  rcases slot σ.ps a with _ | ⟨k, p, s⟩
  · rfl
  · dsimp only [Option.map_some]
    rw [base_er]
theorem begins_er (ps : List (Option PM)) (j : Nat) : begins (erp ps) j = begins ps j := by
  unfold begins
  rw [get_er]
  rcases Ar.get ps (j : Int) with _ | p
  · rfl
  · dsimp only [Option.map_some, er]
    exact List.map_congr_left fun s _ => base_er ps j s
theorem allOf_er (ps : List (Option PM)) : ∀ j, allOf (erp ps) j = allOf ps j
  | 0 => rfl
  | j + 1 => by rw [allOf, allOf, allOf_er ps j, begins_er]
/-- Two states are one but for where their pages lie. -/
structure Same (σ τ : HS) : Prop where
  ps : erp σ.ps = erp τ.ps
  ws : σ.ws = τ.ws
  M : σ.M = τ.M
  sr : σ.sr = τ.sr
  gv : σ.gv = τ.gv
namespace Same
variable {σ τ υ : HS}
theorem refl (σ : HS) : Same σ σ := ⟨rfl, rfl, rfl, rfl, rfl⟩
theorem symm (h : Same σ τ) : Same τ σ := ⟨h.ps.symm, h.ws.symm, h.M.symm, h.sr.symm, h.gv.symm⟩
theorem trans (h : Same σ τ) (g : Same τ υ) : Same σ υ := ⟨h.ps.trans g.ps, h.ws.trans g.ws, h.M.trans g.M, h.sr.trans g.sr, h.gv.trans g.gv⟩
theorem len (h : Same σ τ) : σ.ps.length = τ.ps.length := by rw [← erp_len, h.ps, erp_len]
theorem at_ (h : Same σ τ) {k : Nat} {p : PM} (hp : σ.ps[k]? = some (some p)) : ∃ q, τ.ps[k]? = some (some q) ∧ q.c = p.c ∧ q.n = p.n ∧ q.U = p.U := by
  have h1 := erp_at σ.ps k
  rw [h.ps, erp_at, hp] at h1
  rcases hq : τ.ps[k]? with _ | (_ | q)
  · rw [hq] at h1; cases h1
  · rw [hq] at h1; cases h1
  · rw [hq] at h1
    have h1 : some (some (er q)) = some (some (er p)) := h1
    have h1 := Option.some.inj (Option.some.inj h1)
    unfold er at h1
    injection h1 with _ h2 h3 h4
    exact ⟨q, rfl, h2, h3, h4⟩
theorem none_ (h : Same σ τ) {k : Nat} (hp : σ.ps[k]? = some none) : τ.ps[k]? = some none := by
  have h1 := erp_at σ.ps k
  rw [h.ps, erp_at, hp] at h1
  rcases hq : τ.ps[k]? with _ | (_ | q)
  · rw [hq] at h1; cases h1
  · rfl
  · rw [hq] at h1; cases h1
theorem get_ (h : Same σ τ) (k : Int) : (Ar.get σ.ps k).map er = (Ar.get τ.ps k).map er := by rw [← get_er, h.ps, get_er]
theorem base_ (h : Same σ τ) (k s : Int) : base σ.ps k s = base τ.ps k s := by rw [← base_er, h.ps, base_er]
theorem slot_ (h : Same σ τ) (a : Int) : (slot σ.ps a).isSome = (slot τ.ps a).isSome := by
  have h1 : (slot (erp σ.ps) a).isSome = (slot (erp τ.ps) a).isSome := by rw [h.ps]
  rw [slot_er, slot_er, Option.isSome_map, Option.isSome_map] at h1
  exact h1
theorem fbase_ (h : Same σ τ) (a : Int) : fbase σ.ps a = fbase τ.ps a := by rw [← fbase_er, h.ps, fbase_er]
theorem hat_ (h : Same σ τ) (a : Int) : hat σ a = hat τ a := by
  rw [← hat_er σ, ← hat_er τ]
  unfold hat
  dsimp only
  rw [h.ps]
theorem col_ (h : Same σ τ) (a : Int) : col σ a = col τ a := by
  unfold col
  rw [h.hat_, h.M]
theorem nfl_ (h : Same σ τ) (ls : List (List Int)) (k s : Nat) : nfl ls σ k s = nfl ls τ k s := by
  unfold nfl
  rw [h.M]
theorem hasF_ (h : Same σ τ) (ls : List (List Int)) (a f : Int) : hasF ls σ a f = hasF ls τ a f := by
  unfold hasF
  rw [h.hat_]
  rcases hat τ a with _ | ⟨k, s⟩
  · rfl
  · dsimp only
    rw [h.nfl_]
theorem flds_ (h : Same σ τ) (ls : List (List Int)) (a : Int) (k s : Nat) : flds ls σ a k s = flds ls τ a k s := by
  unfold flds
  rw [h.nfl_, h.ws]
theorem all_ (h : Same σ τ) : allOf σ.ps σ.ps.length = allOf τ.ps τ.ps.length := by
  rw [← allOf_er, h.ps, allOf_er, h.len]
theorem grey_ (h : Same σ τ) : greyOf σ = greyOf τ := by
  unfold greyOf
  rw [h.all_]
  exact List.filter_congr fun a _ => by rw [h.col_]
theorem num_ (h : Same σ τ) : num σ = num τ := by
  unfold num
  rw [h.all_]
theorem kcl_ (h : Same σ τ) (k : Int) : kcl σ k = kcl τ k := by
  have h1 := h.get_ k
  unfold kcl
  rcases hs : Ar.get σ.ps k with _ | p <;> rcases ht : Ar.get τ.ps k with _ | q <;> rw [hs, ht] at h1
  · cases h1
  · cases h1
  · have h1 : some (er p) = some (er q) := h1
    have h1 := Option.some.inj h1
    unfold er at h1
    injection h1 with _ h2 h3 h4
    dsimp only
    rw [h2, h3, h4]
theorem full_ (h : Same σ τ) {c : Int} {k : Nat} (hf : Full σ.ps c k) : Full τ.ps c k := by
  intro i hi q hq hc s hs
  obtain ⟨p, hp, h1, h2, h3⟩ := h.symm.at_ hq
  rw [← h3]
  exact hf i hi p hp (h1.trans hc) s (by omega)
/-- What a page is set to. -/
theorem set_ (h : Same σ τ) (k : Nat) {x y : Option PM} (hx : x.map er = y.map er) (ws : List Int) (M : Nat → Nat → Option Thing) (sr gv : Int) : Same ⟨σ.ps.set k x, ws, M, sr, gv⟩ ⟨τ.ps.set k y, ws, M, sr, gv⟩ :=
  ⟨by dsimp only; rw [erp_set, erp_set, h.ps, hx], rfl, rfl, rfl, rfl⟩
theorem made_ (h : Same σ τ) {k : Nat} {p q : PM} (h1 : q.c = p.c) (h2 : q.n = p.n) (h3 : q.U = p.U) (s z sh n : Nat) (bl : Bool) : Same (made σ k p s z sh n bl) (made τ k q s z sh n bl) := by
  unfold made
  rw [h.ws, h.M, h.sr, h.gv]
  refine h.set_ k ?_ _ _ _ _
  simp only [Option.map_some, er, h1, h2, h3]
theorem with_ (h : Same σ τ) (M : Nat → Nat → Option Thing) : Same { σ with M := M } { τ with M := M } := ⟨h.ps, h.ws, rfl, h.sr, h.gv⟩
theorem words (h : Same σ τ) (ws : List Int) : Same { σ with ws := ws } { τ with ws := ws } := ⟨h.ps, rfl, h.M, h.sr, h.gv⟩
end Same
/-- An object comes, its place told by the state alone. -/
def AlX (c : Int) (sh n : Nat) (σ σ' : HS) (a : Int) : Prop := ∃ (k s z : Nat) (p : PM), Full σ.ps c k ∧ σ.ps[k]? = some (some p) ∧ p.c = c ∧ s < p.n ∧ p.U.testBit s = false ∧ (∀ i, i < s → p.U.testBit i = true) ∧ Cls.csz c = (z : Int) ∧ Same σ' (made σ k p s z sh n false) ∧ a = ((1048576 + 32 * k + s * z : Nat) : Int)
theorem AlX.uniq {c : Int} {sh n : Nat} {σ τ σ' τ' : HS} {a b : Int} (h : Same σ τ) (g : AlX c sh n σ σ' a) (g' : AlX c sh n τ τ' b) : Same σ' τ' ∧ a = b := by
  obtain ⟨k, s, z, p, h1, h2, h3, h4, h5, h6, h7, h8, rfl⟩ := g
  obtain ⟨k', s', z', p', g1, g2, g3, g4, g5, g6, g7, g8, rfl⟩ := g'
  have h1 := h.full_ h1
  obtain ⟨q, hq, q1, q2, q3⟩ := h.at_ h2
  have hk : k = k' := by
    rcases Nat.lt_trichotomy k k' with hlt | e | hlt
    · have := g1 k hlt q hq (q1.trans h3) s (by omega)
      rw [q3, h5] at this; cases this
    · exact e
    · have := h1 k' hlt p' g2 g3 s' g4
      rw [g5] at this; cases this
  subst hk
  rw [hq] at g2
  have g2 := Option.some.inj (Option.some.inj g2)
  subst g2
  have hs : s = s' := by
    rcases Nat.lt_trichotomy s s' with hlt | e | hlt
    · have := g6 s hlt
      rw [q3, h5] at this; cases this
    · exact e
    · have := h6 s' hlt
      rw [← q3, g5] at this; cases this
  subst hs
  obtain rfl : z = z' := by omega
  exact ⟨(h8.trans (h.made_ q1 q2 q3 s z sh n false)).trans g8.symm, rfl⟩
theorem AlX.not {c : Int} {sh n : Nat} {σ τ σ' : HS} {a : Int} (h : Same σ τ) (g : AlX c sh n σ σ' a) (hf : Full τ.ps c τ.ps.length) : False := by
  obtain ⟨k, s, z, p, h1, h2, h3, h4, h5, _⟩ := g
  obtain ⟨q, hq, q1, q2, q3⟩ := h.at_ h2
  have := hf k (List.getElem?_eq_some_iff.1 hq).1 q hq (q1.trans h3) s (by omega)
  rw [q3, h5] at this; cases this
/-- A page is taken for a class. -/
def FrX (c : Int) (σ σ' : HS) : Prop := ∃ (k n : Nat), Cls.csl c = (n : Int) ∧ σ.ps[k]? = some none ∧ (∀ i, i < k → σ.ps[i]? ≠ some none) ∧ Same σ' { σ with ps := σ.ps.set k (some ⟨0, c, n, 0, 0⟩) }
def NoneX (σ : HS) : Prop := ∀ i : Nat, i < σ.ps.length → σ.ps[i]? ≠ some none
theorem FrX.uniq {c : Int} {σ τ σ' τ' : HS} (h : Same σ τ) (g : FrX c σ σ') (g' : FrX c τ τ') : Same σ' τ' := by
  obtain ⟨k, n, h1, h2, h3, h4⟩ := g
  obtain ⟨k', n', g1, g2, g3, g4⟩ := g'
  have hk : k = k' := by
    rcases Nat.lt_trichotomy k k' with hlt | e | hlt
    · exact absurd (h.none_ h2) (g3 k hlt)
    · exact e
    · exact absurd (h.symm.none_ g2) (h3 k' hlt)
  subst hk
  obtain rfl : n = n' := by omega
  refine h4.trans (Same.trans ?_ g4.symm)
  have := h.set_ k (x := some ⟨0, c, n, 0, 0⟩) (y := some ⟨0, c, n, 0, 0⟩) rfl σ.ws σ.M σ.sr σ.gv
  exact ⟨this.ps, h.ws, h.M, h.sr, h.gv⟩
theorem FrX.not {c : Int} {σ τ σ' : HS} (h : Same σ τ) (g : FrX c σ σ') (hn : NoneX τ) : False := by
  obtain ⟨k, n, h1, h2, h3, h4⟩ := g
  have := h.none_ h2
  exact hn k (List.getElem?_eq_some_iff.1 this).1 this
/-- One round: an object, behind a page that was taken, or not. -/
def StX (c : Int) (sh n : Nat) (σ σ' : HS) (r : List Int) : Prop :=
  (∃ a, AlX c sh n σ σ' a ∧ r = [a]) ∨ (Full σ.ps c σ.ps.length ∧ ((NoneX σ ∧ Same σ' σ ∧ r = []) ∨ ∃ υ, FrX c σ υ ∧ ((∃ a, AlX c sh n υ σ' a ∧ r = [a]) ∨ (Full υ.ps c υ.ps.length ∧ Same σ' υ ∧ r = []))))
theorem StX.uniq {c : Int} {sh n : Nat} {σ τ σ' τ' : HS} {r r' : List Int} (hs : Same σ τ) (h : StX c sh n σ σ' r) (h' : StX c sh n τ τ' r') : Same σ' τ' ∧ r = r' := by
  rcases h with ⟨a, h, rfl⟩ | ⟨hn, h⟩ <;> rcases h' with ⟨b, h', rfl⟩ | ⟨hn', h'⟩
  · obtain ⟨e1, e2⟩ := h.uniq hs h'
    exact ⟨e1, by rw [e2]⟩
  · exact (h.not hs hn').elim
  · exact (h'.not hs.symm hn).elim
  · rcases h with ⟨h0, h1, rfl⟩ | ⟨υ, hf, h⟩ <;> rcases h' with ⟨h0', h1', rfl⟩ | ⟨ω, hf', h'⟩
    · exact ⟨(h1.trans hs).trans h1'.symm, rfl⟩
    · exact (hf'.not hs.symm h0).elim
    · exact (hf.not hs h0').elim
    · have e := hf.uniq hs hf'
      rcases h with ⟨a, h, rfl⟩ | ⟨hm, h1, rfl⟩ <;> rcases h' with ⟨b, h', rfl⟩ | ⟨hm', h1', rfl⟩
      · obtain ⟨e1, e2⟩ := h.uniq e h'
        exact ⟨e1, by rw [e2]⟩
      · exact (h.not e hm').elim
      · exact (h'.not e.symm hm).elim
      · exact ⟨(h1.trans e).trans h1'.symm, rfl⟩
/-- So many rounds. -/
def RunX (ls : List (List Int)) (P : Nat) : Nat → HS → List Int → Prop
  | 0, σ, L => Same σ (start P) ∧ L = []
  | i + 1, σ, L => ∃ σ0 L0 r, RunX ls P i σ0 L0 ∧ StX (Cls.cof ((ls.getD (i % ls.length) []).length : Int)) (i % ls.length) (ls.getD (i % ls.length) []).length σ0 σ r ∧ L = L0 ++ r
theorem RunX.uniq {ls : List (List Int)} {P : Nat} : ∀ {i : Nat} {σ τ : HS} {L L' : List Int}, RunX ls P i σ L → RunX ls P i τ L' → Same σ τ ∧ L = L'
  | 0, σ, τ, L, L', h, h' => ⟨h.1.trans h'.1.symm, h.2.trans h'.2.symm⟩
  | i + 1, σ, τ, L, L', h, h' => by
    obtain ⟨σ0, L0, r, h1, h2, rfl⟩ := h
    obtain ⟨τ0, L1, r', g1, g2, rfl⟩ := h'
    obtain ⟨e1, rfl⟩ := RunX.uniq h1 g1
    obtain ⟨e2, rfl⟩ := h2.uniq e1 g2
    exact ⟨e2, rfl⟩
end Go.Proofs.YtfgpadkoonogpaaDoor.Hp
