/- Package besombook: a book whose blocks are known as a set: kept by what is done elsewhere, wherever that lies; told of one more list; asked at the end. -/
import Derived.Test.YtfgpadkoonogpaaDoorBook11
namespace Go.Proofs.YtfgpadkoonogpaaDoor.Book
open Go.RowKit
set_option linter.unusedSimpArgs false
set_option linter.unusedVariables false

theorem BookAt.trim {w : World} {S : Nat → Prop} {base b : Nat} {ks ms : List KL} {vI vW : Value} (h : BookAt w S base b ks ms vI vW) : BookAt w (fun k => S k ∧ k < w.heap.size) base b ks ms vI vW where
  blk := h.blk
  sb := ⟨h.sb, h.blk.lt⟩
  nb := h.nb
  oI := h.oI
  oW := h.oW
  sI := fun k e => ⟨h.sI k e, (h.oI.lt k e).2⟩
  sW := fun k e => ⟨h.sW k e, (h.oW.lt k e).2⟩
  ne := h.ne
  li := fun p hp => ⟨(h.li p hp).1, (h.li p hp).2.1, fun k e => ⟨(h.li p hp).2.2 k e, ((h.li p hp).1.lt k e).2⟩⟩
  lw := fun p hp => ⟨(h.lw p hp).1, (h.lw p hp).2.1, fun k e => ⟨(h.lw p hp).2.2 k e, ((h.lw p hp).1.lt k e).2⟩⟩
  ap := h.ap
  few := h.few
  few2 := h.few2
/-- Block b is a book; all that it has lies in S, from block z on. -/
def BookIn (w : World) (S : Nat → Prop) (z b : Nat) : Prop :=
  (∀ k, S k → k < w.heap.size) ∧ ∃ (ks ms : List KL) (vI vW : Value), BookAt w S z b ks ms vI vW ∧ ms.length = ks.length ∧ ∀ (i : Nat) (p q : KL), ks[i]? = some p → ms[i]? = some q → p.2 = q.2
namespace BookIn
variable {w w' : World} {S : Nat → Prop} {z b : Nat}
theorem keep (h : BookIn w S z b) (hs : w.heap.size ≤ w'.heap.size) (hk : ∀ k, S k → w'.heap[k]? = w.heap[k]?) : BookIn w' S z b := by
  obtain ⟨h0, ks, ms, vI, vW, h1, h2⟩ := h
  exact ⟨fun k hk => Nat.lt_of_lt_of_le (h0 k hk) hs, ks, ms, vI, vW, h1.keep (fun k hS _ => hk k hS) (fun _ h => h), h2⟩
theorem call (h : BookIn w S z b) (hb : Below w.heap.size w w') : BookIn w' S z b := h.keep hb.size fun k hk => hb.block k (h.1 k hk)
theorem drewN (h : BookIn w S z b) (n : Nat) : BookIn (w.drewN n) S z b := h.keep (Nat.le_refl _) fun _ _ => rfl
theorem kept {T : Nat → Prop} (h : BookIn w S z b) (hk : Kept T w w') (hS : ∀ k, S k → ¬ T k) : BookIn w' S z b := h.keep hk.size fun k hs => hk.block k (h.1 k hs) (hS k hs)
theorem in_ (h : BookIn w S z b) : S b ∧ z ≤ b := by
  obtain ⟨_, ks, ms, vI, vW, h1, _⟩ := h
  exact ⟨h1.sb, h1.nb⟩
/-- A new book. -/
theorem new (w : World) (z : Nat) (hz : z ≤ w.heap.size) : BookIn (w.alloc (.cells #[.slice none 0 0, .slice none 0 0, .slice none 0 0, .slice none 0 0, .slice none 0 0, .slice none 0 0, .slice none 0 0, .slice none 0 0, .slice none 0 0, .slice none 0 0] 38)) (fun k => k = w.heap.size) z w.heap.size :=
  ⟨fun k e => by subst e; simp, [], [], .slice none 0 0, .slice none 0 0, ⟨Blk.new w _ _, rfl, hz, World.ownsRow_nil _ _ _ _, World.ownsRow_nil _ _ _ _, fun k e => by simp [Value.ownBlock] at e, fun k e => by simp [Value.ownBlock] at e, fun k e => by simp [Value.ownBlock] at e, fun p hp => by simp at hp, fun p hp => by simp at hp, fun i j p q k hi => by simp at hi, by simp, by simp⟩, rfl, fun i p q hp => by simp at hp⟩
/-- One more list: it was made since w. -/
theorem ints (h : BookIn w S z b) (hz : z ≤ w.heap.size) (hb : Below w.heap.size w w') {A : Option Addr} {c : Nat} {xs : List Int} (hv : w'.ownsRow w.heap.size 3 1 (.slice A xs.length c) xs.length (xs.map (.int .i64))) (hx : xs.length ≤ 99000) :
    Calls Tryd.prog 16 #[.pointer (some ⟨b, 0, none⟩), .slice A xs.length c] w' fun e w'' => e = .returned (.tuple #[]) ∧ Kept (fun k => S k ∨ w.heap.size ≤ k) w' w'' ∧ KeepsInts w' w'' ∧ ∃ S' : Nat → Prop, BookIn w'' S' z b ∧ ∀ k, S' k → S k ∨ w.heap.size ≤ k := by
  obtain ⟨h0, ks, ms, vI, vW, h1, h2, h3⟩ := h
  have h1' : BookAt w' (fun k => S k ∨ w.heap.size ≤ k) z b ks ms vI vW := h1.keep (fun k hS _ => hb.block k (h0 k hS)) (fun k h => .inl h)
  refine (ints_any w' (fun k => S k ∨ w.heap.size ≤ k) z b ks ms vI vW A c xs h1' h2 (fun k hk => .inr (by have := hb.size; omega)) (own_base hv hz) hx (fun k e => .inr (hv.lt k e).1) ?_ (by have := hb.size; omega)).mono ?_
  · intro p hp k e e2
    have := (hv.lt k e2).1
    have := h1.li.lt hp e
    omega
  · rintro e w'' ⟨he, hk, hki, ks', ms', vI', vW', hb', hor⟩
    refine ⟨he, hk, hki, fun k => (S k ∨ w.heap.size ≤ k) ∧ k < w''.heap.size, ⟨fun k hk => hk.2, ks', ms', vI', vW', hb'.trim, ?_⟩, fun k hk => hk.1⟩
    rcases hor with ⟨rfl, rfl⟩ | ⟨v', rfl, rfl⟩
    · exact ⟨h2, h3⟩
    · refine ⟨by simp [h2], ?_⟩
      intro i p q hp hq
      by_cases hi : i < ks.length
      · rw [List.getElem?_append_left hi] at hp
        rw [List.getElem?_append_left (by omega)] at hq
        exact h3 i p q hp hq
      · rw [List.getElem?_append_right (by omega)] at hp
        rw [List.getElem?_append_right (by omega)] at hq
        have e0 : i - ks.length = 0 := by
          rcases Nat.eq_zero_or_pos (i - ks.length) with h0 | h0
          · exact h0
          · rw [List.getElem?_eq_none (by simp; omega)] at hp; cases hp
        rw [h2, e0] at hq
        rw [e0] at hp
        simp at hp hq
        rw [← hp, ← hq]
theorem apart (h : BookIn w S z b) (hz : z ≤ w.heap.size) :
    Calls Tryd.prog 25 #[.pointer (some ⟨b, 0, none⟩)] w fun e w' => e = .returned (.bool true) ∧ Kept (fun k => S k ∨ w.heap.size ≤ k) w w' := by
  obtain ⟨h0, ks, ms, vI, vW, h1, h2, h3⟩ := h
  exact apart_any w _ z b ks ms vI vW (h1.keep (S' := fun k => S k ∨ w.heap.size ≤ k) (fun _ _ _ => rfl) (fun k h => .inl h)) h2 h3 (fun k hk => .inr hk) hz
end BookIn
end Go.Proofs.YtfgpadkoonogpaaDoor.Book
