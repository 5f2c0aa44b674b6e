/- Package besombook: one more list is kept. -/
import Derived.Test.YtfgpadkoonogpaaDoorBook
import Derived.StillTailTactics
namespace Go.Proofs.YtfgpadkoonogpaaDoor.Book
open Go.RowKit
set_option linter.unusedSimpArgs false
set_option linter.unusedVariables false

theorem infoL : (Tryd.prog.info? 27).map (fun i => (i.zero, i.size, i.bytes)) = some (some (.slice none 0 0), 1, 24) := by kernel_rfl
theorem blk_row {w w' : World} {b : Nat} {row : Option Nat} {cs : Array Value} {T : TypeId} (h : Blk w b cs T) (hg : w.grownBy w' row) (hne : some b ≠ row) : Blk w' b cs T := (hg.block b h.lt hne).trans h
theorem slices_one (ks : List KL) (w : World) (S : Nat → Prop) (base m : Nat) (h : Own w S base ks m) : ∀ u ∈ ks.map Prod.fst, u.oneCell' = true := by
  intro u hu
  obtain ⟨p, hp, rfl⟩ := List.mem_map.1 hu
  obtain ⟨a, c, h1⟩ := h.slice hp
  rw [h1]; rfl
theorem Sep.add {ks : List KL} (h : Sep ks) (v : Value) (xs : List Int) (hv : ∀ p ∈ ks, ∀ k, p.1.ownBlock = some k → v.ownBlock ≠ some k) : Sep (ks ++ [(v, xs)]) := by
  intro i j p q k hi hj hp hq
  rw [List.getElem?_append] at hi hj
  split at hi <;> split at hj
  · exact h i j p q k hi hj hp hq
  · have hq' : (v, xs) = q := by
      have : j - ks.length = 0 := by
        rcases Nat.eq_zero_or_pos (j - ks.length) with h0 | h0
        · exact h0
        · rw [List.getElem?_eq_none (by simp; omega)] at hj; cases hj
      rw [this] at hj; simpa using hj
    subst hq'
    exact absurd hq (hv p (List.mem_of_getElem? hi) k hp)
  · have hp' : (v, xs) = p := by
      have : i - ks.length = 0 := by
        rcases Nat.eq_zero_or_pos (i - ks.length) with h0 | h0
        · exact h0
        · rw [List.getElem?_eq_none (by simp; omega)] at hi; cases hi
      rw [this] at hi; simpa using hi
    subst hp'
    exact absurd hp (hv q (List.mem_of_getElem? hj) k hq)
  · have h1 : i - ks.length = 0 := by
      rcases Nat.eq_zero_or_pos (i - ks.length) with h0 | h0
      · exact h0
      · rw [List.getElem?_eq_none (by simp; omega)] at hi; cases hi
    have h2 : j - ks.length = 0 := by
      rcases Nat.eq_zero_or_pos (j - ks.length) with h0 | h0
      · exact h0
      · rw [List.getElem?_eq_none (by simp; omega)] at hj; cases hj
    omega
namespace BookAt
variable {w w' : World} {S : Nat → Prop} {base b : Nat} {ks ms : List KL} {vI vW : Value}
/-- The row of lists has grown by one; the book is told. -/
theorem addI (h : BookAt w S base b ks ms vI vW) (hS : ∀ k, w.heap.size ≤ k → S k) (v : Value) (xs : List Int) (hv : w.ownsRow base 3 1 v xs.length (xs.map (.int .i64))) (hx : xs.length ≤ 99000) (hvS : ∀ k, v.ownBlock = some k → S k)
    (hsep : ∀ p ∈ ks, ∀ k, p.1.ownBlock = some k → v.ownBlock ≠ some k) (hlen : ks.length < 250) {vI' : Value}
    (ho : w'.ownsRow base 27 1 vI' (ks.length + 1) (ks.map Prod.fst ++ [v])) (hg : w.grownBy w' vI.ownBlock) (hat : vI'.ownBlock = vI.ownBlock ∨ vI'.ownBlock = some w.heap.size) :
    BookAt (w'.setCell ⟨b, 0, none⟩ vI') S base b (ks ++ [(v, xs)]) ms vI' vW := by
  have hv' : Own w S base [(v, xs)] := fun p hp => by simp at hp; subst hp; exact ⟨hv, hx, hvS⟩
  have hnt : ∀ p ∈ ks ++ [(v, xs)], ∀ k, p.1.ownBlock = some k → vI.ownBlock ≠ some k := by
    intro p hp k he
    rcases List.mem_append.1 hp with hp | hp
    · exact h.li.ne_type hp he h.oI (by decide)
    · exact hv'.ne_type hp he h.oI (by decide)
  have hnb : ∀ p ∈ ks ++ [(v, xs)], ∀ k, p.1.ownBlock = some k → b ≠ k := by
    intro p hp k he
    rcases List.mem_append.1 hp with hp | hp
    · exact h.nep hp he
    · simp at hp; subst hp
      rintro rfl
      exact own_ne hv h.blk (by decide) he.symm
  have hlt : ∀ p ∈ ks ++ [(v, xs)], ∀ k, p.1.ownBlock = some k → k < w.heap.size := by
    intro p hp k he
    rcases List.mem_append.1 hp with hp | hp
    · exact h.li.lt hp he
    · exact hv'.lt hp he
  have hb1 : Blk w' b _ _ := blk_row h.blk hg h.neI
  have hnI : vI'.ownBlock ≠ some b := by
    intro e
    exact own_ne ho hb1 (by decide) e.symm
  exact {
    blk := (hb1.set 0 vI').of_eq (by simp)
    sb := h.sb
    nb := h.nb
    oI := own_block (by simpa using ho) fun k e => Below.heap_setCell w' ⟨b, 0, none⟩ _ k (fun e2 => by subst e2; exact hnI e)
    oW := own_block (own_keep_grown h.oW hg fun k e e2 => h.ne k e2 e) fun k e => Below.heap_setCell w' ⟨b, 0, none⟩ _ k (fun e2 => by subst e2; exact h.neW e.symm)
    sI := fun k e => by
      rcases hat with h1 | h1
      · exact h.sI k (h1 ▸ e)
      · rw [h1] at e; injection e with e; subst e; exact hS _ (Nat.le_refl _)
    sW := h.sW
    ne := fun k e => by
      rcases hat with h1 | h1
      · exact h.ne k (h1 ▸ e)
      · rw [h1] at e; injection e with e; subst e
        intro e2
        exact absurd (h.oW.lt _ e2).2 (Nat.lt_irrefl _)
    li := by
      intro p hp
      have hp0 : w.ownsRow base 3 1 p.1 p.2.length (p.2.map (.int .i64)) ∧ p.2.length ≤ 99000 ∧ ∀ k, p.1.ownBlock = some k → S k := by
        rcases List.mem_append.1 hp with hp | hp
        · exact h.li p hp
        · exact hv' p hp
      exact ⟨own_block (own_keep_grown hp0.1 hg fun k e => hnt p hp k e) fun k e => Below.heap_setCell w' ⟨b, 0, none⟩ _ k (hnb p hp k e).symm, hp0.2⟩
    lw := fun p hp => ⟨own_block (own_keep_grown (h.lw p hp).1 hg fun k e => h.lw.ne_type hp e h.oI (by decide)) fun k e => Below.heap_setCell w' ⟨b, 0, none⟩ _ k (h.nem hp e).symm, (h.lw p hp).2⟩
    ap := h.ap.add v xs hsep
    few := by simp; omega
    few2 := h.few2 }
theorem addW (h : BookAt w S base b ks ms vI vW) (hS : ∀ k, w.heap.size ≤ k → S k) (v : Value) (xs : List Int) (hv : w.ownsRow base 3 1 v xs.length (xs.map (.int .i64))) (hx : xs.length ≤ 99000) (hvS : ∀ k, v.ownBlock = some k → S k)
    (hlen : ms.length < 250) {vW' : Value}
    (ho : w'.ownsRow base 27 1 vW' (ms.length + 1) (ms.map Prod.fst ++ [v])) (hg : w.grownBy w' vW.ownBlock) (hat : vW'.ownBlock = vW.ownBlock ∨ vW'.ownBlock = some w.heap.size) :
    BookAt (w'.setCell ⟨b, 1, none⟩ vW') S base b ks (ms ++ [(v, xs)]) vI vW' := by
  have hv' : Own w S base [(v, xs)] := fun p hp => by simp at hp; subst hp; exact ⟨hv, hx, hvS⟩
  have hnt : ∀ p ∈ ms ++ [(v, xs)], ∀ k, p.1.ownBlock = some k → vW.ownBlock ≠ some k := by
    intro p hp k he
    rcases List.mem_append.1 hp with hp | hp
    · exact h.lw.ne_type hp he h.oW (by decide)
    · exact hv'.ne_type hp he h.oW (by decide)
  have hnb : ∀ p ∈ ms ++ [(v, xs)], ∀ k, p.1.ownBlock = some k → b ≠ k := by
    intro p hp k he
    rcases List.mem_append.1 hp with hp | hp
    · exact h.nem hp he
    · simp at hp; subst hp
      rintro rfl
      exact own_ne hv h.blk (by decide) he.symm
  have hb1 : Blk w' b _ _ := blk_row h.blk hg h.neW
  have hnI : vW'.ownBlock ≠ some b := by
    intro e
    exact own_ne ho hb1 (by decide) e.symm
  exact {
    blk := (hb1.set 1 vW').of_eq (by simp)
    sb := h.sb
    nb := h.nb
    oI := own_block (own_keep_grown h.oI hg fun k e e2 => h.ne k e e2) fun k e => Below.heap_setCell w' ⟨b, 1, none⟩ _ k (fun e2 => by subst e2; exact h.neI e.symm)
    oW := own_block (by simpa using ho) fun k e => Below.heap_setCell w' ⟨b, 1, none⟩ _ k (fun e2 => by subst e2; exact hnI e)
    sI := h.sI
    sW := fun k e => by
      rcases hat with h1 | h1
      · exact h.sW k (h1 ▸ e)
      · rw [h1] at e; injection e with e; subst e; exact hS _ (Nat.le_refl _)
    ne := fun k e => by
      rcases hat with h1 | h1
      · rw [h1]; exact h.ne k e
      · rw [h1]; intro e2; injection e2 with e2; subst e2
        exact absurd (h.oI.lt _ e).2 (Nat.lt_irrefl _)
    li := fun p hp => ⟨own_block (own_keep_grown (h.li p hp).1 hg fun k e => h.li.ne_type hp e h.oW (by decide)) fun k e => Below.heap_setCell w' ⟨b, 1, none⟩ _ k (h.nep hp e).symm, (h.li p hp).2⟩
    lw := by
      intro p hp
      have hp0 : w.ownsRow base 3 1 p.1 p.2.length (p.2.map (.int .i64)) ∧ p.2.length ≤ 99000 ∧ ∀ k, p.1.ownBlock = some k → S k := by
        rcases List.mem_append.1 hp with hp | hp
        · exact h.lw p hp
        · exact hv' p hp
      exact ⟨own_block (own_keep_grown hp0.1 hg fun k e => hnt p hp k e) fun k e => Below.heap_setCell w' ⟨b, 1, none⟩ _ k (hnb p hp k e).symm, hp0.2⟩
    ap := h.ap
    few := h.few
    few2 := by simp; omega }
end BookAt
theorem own_vs {w : World} {B B' n n' size size' : Nat} {v v' : Value} {xs xs' : List Value} {e e' : TypeId} (h : w.ownsRow B e size v n xs) (h' : w.ownsRow B' e' size' v' n' xs') (hne : e ≠ e') {k : Nat} (hk : v.ownBlock = some k) : v'.ownBlock ≠ some k := by
  intro h2
  rcases h.2 with ⟨rfl, _⟩ | ⟨g, _, cur, rfl, _, hh, _⟩
  · simp [Value.ownBlock] at hk
  · obtain rfl : g = k := by simpa [Value.ownBlock] using hk
    rcases h'.2 with ⟨rfl, _⟩ | ⟨g', _, cur', rfl, _, hh', _⟩
    · simp [Value.ownBlock] at h2
    · obtain rfl : g' = g := by simpa [Value.ownBlock] using h2
      rw [hh] at hh'
      injection hh' with hh'
      injection hh' with _ ht
      exact hne ht
theorem own_base {w : World} {B B' n size : Nat} {v : Value} {xs : List Value} {e : TypeId} (h : w.ownsRow B e size v n xs) (hB : B' ≤ B) : w.ownsRow B' e size v n xs :=
  ⟨h.1, h.2.imp id fun ⟨g, cap, cur, h1, h2, h3⟩ => ⟨g, cap, cur, h1, Nat.le_trans hB h2, h3⟩⟩
theorem below_drew1 {w w' : World} (h : Below w.drew.heap.size w.drew w') : Below w.heap.size w w' := fresh_call (Below.refl _ _).drew h
/-- Rows of ints are kept, wherever they lie. -/
def KeepsInts (w w' : World) : Prop := ∀ (B : Nat) (v : Value) (n : Nat) (xs : List Value), w.ownsRow B 3 1 v n xs → w'.ownsRow B 3 1 v n xs
namespace KeepsInts
variable {a w w' : World}
theorem refl (w : World) : KeepsInts w w := fun _ _ _ _ h => h
theorem trans (h : KeepsInts a w) (k : KeepsInts w w') : KeepsInts a w' := fun B v n xs o => k B v n xs (h B v n xs o)
theorem below (hb : Below w.heap.size w w') : KeepsInts w w' := fun B v n xs o => own_block o fun k e => hb.block k (o.lt k e).2
theorem grown {B n size : Nat} {v : Value} {xs : List Value} {e : TypeId} (hg : w.grownBy w' v.ownBlock) (ho : w.ownsRow B e size v n xs) (hne : 3 ≠ e) : KeepsInts w w' :=
  fun B' v' n' xs' o => own_keep_grown o hg fun k e1 e2 => own_vs o ho hne e1 e2
theorem set {b : Nat} {cs : Array Value} {T : TypeId} (h : Blk w b cs T) (hne : 3 ≠ T) (i : Nat) (u : Value) : KeepsInts w (w.setCell ⟨b, i, none⟩ u) :=
  fun B v n xs o => own_block o fun k e => Below.heap_setCell w ⟨b, i, none⟩ u k (fun e2 => by subst e2; exact own_ne o h hne e.symm)
end KeepsInts
/-- What was grown at a row that lies in S is kept elsewhere. -/
theorem kept_grown {S : Nat → Prop} {w w' : World} {row : Option Nat} (hg : w.grownBy w' row) (hs : ∀ k, row = some k → S k) : Kept S w w' :=
  ⟨hg.os, hg.tape, hg.output, hg.size, fun i hi hn => hg.block i hi (fun e => hn (hs i e.symm))⟩
end Go.Proofs.YtfgpadkoonogpaaDoor.Book
