/- Package besombook: all lists are grown (growInts): what holds meanwhile. -/
import Derived.Test.YtfgpadkoonogpaaDoorBook6
namespace Go.Proofs.YtfgpadkoonogpaaDoor.Book
open Go.RowKit
set_option linter.unusedSimpArgs false
set_option linter.unusedVariables false

/-- A shorter slice of an owned block is owned too. -/
theorem own_prefix {w w' : World} {B B' e n m : Nat} {v l : Value} {xs ys : List Value} {g : Nat} (hv : w.ownsRow B e 1 v n xs) (hl : w.ownsRow B' e 1 l m ys) (hl' : w'.ownsRow B' e 1 l m ys) (h1 : v.ownBlock = some g) (h2 : l.ownBlock = some g) (hnm : n ≤ m) : w'.ownsRow B e 1 v n xs := by
  refine ⟨hv.1, ?_⟩
  rcases hv.2 with ⟨rfl, _⟩ | ⟨g1, c1, cur1, rfl, hb1, hh1, hn1, hm1, hs1, ht1⟩
  · simp [Value.ownBlock] at h1
  obtain rfl : g1 = g := by simpa [Value.ownBlock] using h1
  rcases hl.2 with ⟨rfl, _⟩ | ⟨g2, c2, cur2, rfl, hb2, hh2, hn2, hm2, hs2, ht2⟩
  · simp [Value.ownBlock] at h2
  obtain rfl : g2 = g1 := by simpa [Value.ownBlock] using h2
  rcases hl'.2 with ⟨h, _⟩ | ⟨g3, c3, cur3, h3, hb3, hh3, hn3, hm3, hs3, ht3⟩
  · simp at h
  injection h3 with h4 _ h5
  injection h4 with h4
  injection h4 with h4
  subst h4 h5
  rw [hh1] at hh2
  injection hh2 with hh2
  injection hh2 with hh2
  subst hh2
  refine .inr ⟨g2, c1, cur3, rfl, hb1, hh3, hn1, hm1, by omega, ?_⟩
  simp only [Nat.mul_one] at *
  have : cur3.toList.take n = (cur3.toList.take m).take n := by rw [List.take_take]; congr 1; omega
  rw [this, ht3, ← ht2, List.take_take, ← ht1]
  congr 1; omega
/-- While the i-th list grows: l is what has come of it so far; gs are the lists that were grown. -/
structure GS (w wr : World) (S : Nat → Prop) (base b i Bi : Nat) (ks gs : List KL) (vI vW vO v l : Value) (n t : Nat) : Prop where
  bk : BK wr S base b ks vI vW
  kp : Kept S w wr
  oO : wr.ownsRow w.heap.size 27 1 vO gs.length (gs.map Prod.fst)
  og : Own wr S base gs 100000
  mg : ∀ (j : Nat) (p : KL), gs[j]? = some p → p.2 = marks j 0 p.2.length
  loc : ∀ (j : Nat) (p : KL) (q : Nat), gs[j]? = some p → p.1.ownBlock = some q → (∃ pk, ks[j]? = some pk ∧ pk.1.ownBlock = some q) ∨ w.heap.size ≤ q
  low : ∀ p ∈ ks, ∀ q, p.1.ownBlock = some q → q < w.heap.size
  lowI : ∀ q, vI.ownBlock = some q → q < w.heap.size
  hS : ∀ k, w.heap.size ≤ k → S k
  len : gs.length = i
  szB : w.heap.size ≤ Bi
  sz : Bi ≤ wr.heap.size
  glt : ∀ p ∈ gs, ∀ q, p.1.ownBlock = some q → q < Bi
  lown : wr.ownsRow base 3 1 l (n + t) ((marks i 0 (n + t)).map (.int .i64))
  lloc : l.ownBlock = v.ownBlock ∨ ∀ q, l.ownBlock = some q → Bi ≤ q
  hv : ks[i]? = some (v, marks i 0 n)
namespace GS
variable {w wr w2 : World} {S : Nat → Prop} {base b i Bi n t : Nat} {ks gs : List KL} {vI vW vO v l : Value}
theorem call (h : GS w wr S base b i Bi ks gs vI vW vO v l n t) (hb : Below wr.heap.size wr w2) : GS w w2 S base b i Bi ks gs vI vW vO v l n t :=
  { h with bk := h.bk.call hb, kp := h.kp.step (Kept.of_below hb S) (fun _ _ h => h), oO := own_block h.oO fun k e => hb.block k (h.oO.lt k e).2, og := h.og.keep (fun p hp k e => hb.block k (h.og.lt hp e)) (fun _ h => h), sz := Nat.le_trans h.sz hb.size, lown := own_block h.lown fun k e => hb.block k (h.lown.lt k e).2 }
/-- No list of the book but the i-th, and no list that was grown, lies where l does. -/
theorem far (h : GS w wr S base b i Bi ks gs vI vW vO v l n t) {j : Nat} {p : KL} {q : Nat} (hj : ks[j]? = some p) (hp : p.1.ownBlock = some q) (hq : l.ownBlock = some q) : j = i ∧ l.ownBlock = v.ownBlock := by
  rcases h.lloc with h1 | h1
  · exact ⟨h.bk.ap j i p _ q hj h.hv hp (h1 ▸ hq), h1⟩
  · have := h1 q hq
    have := h.low p (List.mem_of_getElem? hj) q hp
    have := h.szB
    omega
theorem farg (h : GS w wr S base b i Bi ks gs vI vW vO v l n t) {j : Nat} {p : KL} {q : Nat} (hj : gs[j]? = some p) (hp : p.1.ownBlock = some q) : l.ownBlock ≠ some q := by
  intro hq
  have hji : j < i := by rw [← h.len]; exact (List.getElem?_eq_some_iff.1 hj).1
  rcases h.lloc with h1 | h1
  · rcases h.loc j p q hj hp with ⟨pk, h2, h3⟩ | h2
    · have := h.bk.ap j i pk _ q h2 h.hv h3 (h1 ▸ hq)
      omega
    · have := h.low _ (List.mem_of_getElem? h.hv) q (h1 ▸ hq)
      omega
  · have := h1 q hq
    have := h.glt p (List.mem_of_getElem? hj) q hp
    omega
theorem lS (h : GS w wr S base b i Bi ks gs vI vW vO v l n t) {q : Nat} (hq : l.ownBlock = some q) : S q := by
  rcases h.lloc with h1 | h1
  · exact (h.bk.li _ (List.mem_of_getElem? h.hv)).2.2 q (h1 ▸ hq)
  · exact h.hS q (by have := h1 q hq; have := h.szB; omega)
/-- The list has grown. -/
theorem app (h : GS w wr S base b i Bi ks gs vI vW vO v l n t) {m : Nat} {l' : Value} (ho : w2.ownsRow base 3 1 l' (n + (t + m)) ((marks i 0 (n + (t + m))).map (.int .i64))) (hg : wr.grownBy w2 l.ownBlock)
    (hat : l'.ownBlock = l.ownBlock ∨ l'.ownBlock = some wr.heap.size) (hold : w2.ownsRow base 3 1 l (n + t) ((marks i 0 (n + t)).map (.int .i64))) : GS w w2 S base b i Bi ks gs vI vW vO v l' n (t + m) := by
  have hbI : ∀ k, vI.ownBlock = some k → l.ownBlock ≠ some k := fun k e e2 => own_vs h.lown h.bk.oI (by decide) e2 e
  refine { h with bk := ⟨blk_row h.bk.blk hg (own_ne h.lown h.bk.blk (by decide)), h.bk.sb, own_keep_grown h.bk.oI hg hbI, h.bk.sI, ?_, h.bk.ap, h.bk.few⟩, kp := h.kp.step (kept_grown (S := S) hg fun k e => h.lS e) (fun _ _ h => h), oO := own_keep_grown h.oO hg fun k e e2 => own_vs h.lown h.oO (by decide) e2 e, og := ?_, sz := Nat.le_trans h.sz hg.size, lown := ho, lloc := ?_ }
  · intro p hp
    obtain ⟨j, hj⟩ := List.mem_iff_getElem?.1 hp
    refine ⟨?_, (h.bk.li p hp).2⟩
    by_cases hq : ∃ q, p.1.ownBlock = some q ∧ l.ownBlock = some q
    · obtain ⟨q, h1, h2⟩ := hq
      obtain ⟨rfl, h3⟩ := h.far hj h1 h2
      have := h.hv
      rw [hj] at this
      injection this with this
      subst this
      have hn : (marks j 0 n).length = n := marks_length _ _ _
      dsimp only at h1 ⊢
      rw [hn]
      have h4 := (h.bk.li _ hp).1
      dsimp only at h4
      rw [hn] at h4
      exact own_prefix h4 h.lown hold h1 h2 (by omega)
    · exact own_keep_grown (h.bk.li p hp).1 hg fun k e e2 => hq ⟨k, e, e2⟩
  · intro p hp
    obtain ⟨j, hj⟩ := List.mem_iff_getElem?.1 hp
    exact ⟨own_keep_grown (h.og p hp).1 hg fun k e => h.farg hj e, (h.og p hp).2⟩
  · rcases hat with h1 | h1
    · rcases h.lloc with h2 | h2
      · exact .inl (h1.trans h2)
      · exact .inr fun q hq => h2 q (h1 ▸ hq)
    · right
      intro q hq
      rw [h1] at hq
      injection hq with hq
      have := h.sz
      omega
/-- The list is kept among those that were grown: behind the append onto their row. -/
theorem next (h : GS w wr S base b i Bi ks gs vI vW vO v l n t) {vO' : Value} (hx : n + t ≤ 100000) (ho : w2.ownsRow w.heap.size 27 1 vO' (gs.length + 1) (gs.map Prod.fst ++ [l])) (hg : wr.grownBy w2 vO.ownBlock) :
    BK w2 S base b ks vI vW ∧ Kept S w w2 ∧ Own w2 S base (gs ++ [(l, marks i 0 (n + t))]) 100000 ∧ (∀ (j : Nat) (p : KL), (gs ++ [(l, marks i 0 (n + t))])[j]? = some p → p.2 = marks j 0 p.2.length) ∧
    (∀ (j : Nat) (p : KL) (q : Nat), (gs ++ [(l, marks i 0 (n + t))])[j]? = some p → p.1.ownBlock = some q → (∃ pk, ks[j]? = some pk ∧ pk.1.ownBlock = some q) ∨ w.heap.size ≤ q) ∧ (∀ p ∈ gs ++ [(l, marks i 0 (n + t))], ∀ q, p.1.ownBlock = some q → q < w2.heap.size) := by
  have hOS : ∀ k, vO.ownBlock = some k → S k := fun k e => h.hS k (h.oO.lt k e).1
  have last : ∀ (j : Nat) (p : KL), (gs ++ [(l, marks i 0 (n + t))])[j]? = some p → gs[j]? = some p ∨ (j = i ∧ p = (l, marks i 0 (n + t))) := by
    intro j p hj
    rw [List.getElem?_append] at hj
    split at hj
    · exact .inl hj
    · have h0 : j - gs.length = 0 := by
        rcases Nat.eq_zero_or_pos (j - gs.length) with h0 | h0
        · exact h0
        · rw [List.getElem?_eq_none (by simp; omega)] at hj; cases hj
      rw [h0] at hj
      simp at hj
      exact .inr ⟨by have := h.len; omega, hj.symm⟩
  have hown : ∀ p ∈ gs ++ [(l, marks i 0 (n + t))], wr.ownsRow base 3 1 p.1 p.2.length (p.2.map (.int .i64)) ∧ p.2.length ≤ 100000 ∧ ∀ k, p.1.ownBlock = some k → S k := by
    intro p hp
    rcases List.mem_append.1 hp with hp | hp
    · exact h.og p hp
    · simp at hp
      subst hp
      exact ⟨by rw [marks_length]; exact h.lown, by rw [marks_length]; exact hx, fun k e => h.lS e⟩
  refine ⟨⟨blk_row h.bk.blk hg (own_ne h.oO h.bk.blk (by decide)), h.bk.sb, ?_, h.bk.sI, h.bk.li.keep (fun p hp k e => hg.block k (h.bk.li.lt hp e) (fun e2 => h.bk.li.ne_type hp e h.oO (by decide) e2.symm)) (fun _ h => h), h.bk.ap, h.bk.few⟩, h.kp.step (kept_grown (S := S) hg hOS) (fun _ _ h => h), ?_, ?_, ?_, ?_⟩
  · exact own_keep_grown h.bk.oI hg fun k e e2 => by have := h.lowI k e; have := (h.oO.lt k e2).1; omega
  · intro p hp
    exact ⟨own_keep_grown (hown p hp).1 hg fun k e e2 => own_vs (hown p hp).1 h.oO (by decide) e e2, (hown p hp).2⟩
  · intro j p hj
    rcases last j p hj with h1 | ⟨rfl, rfl⟩
    · exact h.mg j p h1
    · simp [marks_length]
  · intro j p q hj hq
    rcases last j p hj with h1 | ⟨rfl, rfl⟩
    · exact h.loc j p q h1 hq
    · rcases h.lloc with h2 | h2
      · exact .inl ⟨_, h.hv, h2 ▸ hq⟩
      · exact .inr (by have := h2 q hq; have := h.szB; omega)
  · intro p hp q hq
    exact Nat.lt_of_lt_of_le ((hown p hp).1.lt q hq).2 hg.size
end GS
end Go.Proofs.YtfgpadkoonogpaaDoor.Book
