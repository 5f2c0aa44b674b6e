/- Package besombook: a book whose lists all lie from block z on: kept by what is done below, told of one more list, asked at the end. -/
import Derived.Test.YtfgpadkoonogpaaDoorBook10
namespace Go.Proofs.YtfgpadkoonogpaaDoor.Book
open Go.RowKit
set_option linter.unusedSimpArgs false
set_option linter.unusedVariables false

/-- Block b is a book; all that it has lies from block z on. -/
def BookOk (w : World) (z b : Nat) : Prop :=
  ∃ (ks ms : List KL) (vI vW : Value), BookAt w (fun k => z ≤ k) z b ks ms vI vW ∧ ms.length = ks.length ∧ ∀ (i : Nat) (p q : KL), ks[i]? = some p → ms[i]? = some q → p.2 = q.2
namespace BookOk
variable {w w' : World} {z b : Nat}
theorem keep (h : BookOk w z b) (hk : ∀ k, z ≤ k → k < w.heap.size → w'.heap[k]? = w.heap[k]?) : BookOk w' z b := by
  obtain ⟨ks, ms, vI, vW, h1, h2⟩ := h
  exact ⟨ks, ms, vI, vW, h1.keep hk (fun _ h => h), h2⟩
theorem call (h : BookOk w z b) (hb : Below w.heap.size w w') : BookOk w' z b := h.keep fun k _ hk => hb.block k hk
theorem drewN (h : BookOk w z b) (n : Nat) : BookOk (w.drewN n) z b := h.keep fun _ _ _ => rfl
theorem kept {S : Nat → Prop} (h : BookOk w z b) (hk : Kept S w w') (hS : ∀ k, S k → k < z) : BookOk w' z b := h.keep fun k hz hk' => hk.block k hk' (fun hs => by have := hS k hs; omega)
theorem lt (h : BookOk w z b) : z ≤ b ∧ b < w.heap.size := by
  obtain ⟨ks, ms, vI, vW, h1, h2⟩ := h
  exact ⟨h1.nb, h1.blk.lt⟩
/-- A new book. -/
theorem new (w : World) (z : Nat) (hz : z ≤ w.heap.size) : BookOk (w.alloc (.cells #[.slice none 0 0, .slice none 0 0, .slice none 0 0, .slice none 0 0, .slice none 0 0, .slice none 0 0, .slice none 0 0, .slice none 0 0, .slice none 0 0, .slice none 0 0] 38)) z w.heap.size :=
  ⟨[], [], .slice none 0 0, .slice none 0 0, ⟨Blk.new w _ _, hz, hz, World.ownsRow_nil _ _ _ _, World.ownsRow_nil _ _ _ _, fun k e => by simp [Value.ownBlock] at e, fun k e => by simp [Value.ownBlock] at e, fun k e => by simp [Value.ownBlock] at e, fun p hp => by simp at hp, fun p hp => by simp at hp, fun i j p q k hi => by simp at hi, by simp, by simp⟩, rfl, fun i p q hp => by simp at hp⟩
/-- One more list: it was made since w. -/
theorem ints (h : BookOk w z b) (hz : z ≤ w.heap.size) (hb : Below w.heap.size w w') {A : Option Addr} {c : Nat} {xs : List Int} (hv : w'.ownsRow w.heap.size 3 1 (.slice A xs.length c) xs.length (xs.map (.int .i64))) (hx : xs.length ≤ 99000) :
    Calls Tryd.prog 16 #[.pointer (some ⟨b, 0, none⟩), .slice A xs.length c] w' fun e w'' => e = .returned (.tuple #[]) ∧ Kept (fun k => z ≤ k) w' w'' ∧ KeepsInts w' w'' ∧ BookOk w'' z b := by
  obtain ⟨ks, ms, vI, vW, h1, h2, h3⟩ := h
  refine (ints_any w' (fun k => z ≤ k) z b ks ms vI vW A c xs (h1.call hb) h2 (fun k hk => by have := hb.size; omega) (own_base hv hz) hx (fun k e => by have := (hv.lt k e).1; omega) ?_ (by have := hb.size; omega)).mono ?_
  · intro p hp k e e2
    have := (hv.lt k e2).1
    have := h1.li.lt hp e
    omega
  · rintro e w'' ⟨he, hk, hki, ks', ms', vI', vW', hb', hor⟩
    refine ⟨he, hk, hki, ks', ms', vI', vW', hb', ?_⟩
    rcases hor with ⟨rfl, rfl⟩ | ⟨v', rfl, rfl⟩
    · exact ⟨h2, h3⟩
    · refine ⟨by simp [h2], ?_⟩
      intro i p q hp hq
      by_cases hi : i < ks.length
      · rw [List.getElem?_append_left hi] at hp
        rw [List.getElem?_append_left (by omega)] at hq
        exact h3 i p q hp hq
      · rw [List.getElem?_append_right (by omega)] at hp
        rw [List.getElem?_append_right (by omega)] at hq
        have e0 : i - ks.length = 0 := by
          rcases Nat.eq_zero_or_pos (i - ks.length) with h0 | h0
          · exact h0
          · rw [List.getElem?_eq_none (by simp; omega)] at hp; cases hp
        rw [h2, e0] at hq
        rw [e0] at hp
        simp at hp hq
        rw [← hp, ← hq]
theorem apart (h : BookOk w z b) (hz : z ≤ w.heap.size) :
    Calls Tryd.prog 25 #[.pointer (some ⟨b, 0, none⟩)] w fun e w' => e = .returned (.bool true) ∧ Kept (fun k => z ≤ k) w w' := by
  obtain ⟨ks, ms, vI, vW, h1, h2, h3⟩ := h
  exact apart_any w _ z b ks ms vI vW h1 h2 h3 (fun k hk => by omega) hz
end BookOk
end Go.Proofs.YtfgpadkoonogpaaDoor.Book
