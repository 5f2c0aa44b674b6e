/- besomlaw18.BarrierTells: plain facts, a book that is told of lists made ahead of it. -/
import Derived.Test.YtnolkgciapggdaaBarA
import Derived.Test.YtnolkgciapggdaaBook11
import Derived.Test.YtnolkgciapggdaaBookI
import Derived.Test.YtnolkgciapggdaaPrg
namespace Go.Proofs.Ytnolkgciapggdaa.Bar
open Go.RowKit Book
set_option linter.unusedSimpArgs false
set_option linter.unusedVariables false

theorem isptr_any (k : Int) (w : World) : Calls Try.prog 33 #[.int .i64 k] w fun e w' => e = .returned (.bool (decide (16 ≤ k ∧ k < 32))) ∧ w = w' := by
  by_cases h1 : 16 ≤ k
  · by_cases h2 : k < 32
    · rw [show decide (16 ≤ k ∧ k < 32) = true by simp; omega]
      go_enter Try.func33, Try.ntmps33
      go_wp2_with fail
      go_ret
      exact ⟨rfl, rfl⟩
    · rw [show decide (16 ≤ k ∧ k < 32) = false by simp; omega]
      go_enter Try.func33, Try.ntmps33
      go_wp2_with fail
      go_ret
      exact ⟨rfl, rfl⟩
  · rw [show decide (16 ≤ k ∧ k < 32) = false by simp; omega]
    go_enter Try.func33, Try.ntmps33
    go_wp2_with fail
    go_ret
    exact ⟨rfl, rfl⟩
theorem store_idle_is {p o n : Int} {bl : Bool} (h : p ≠ 1) : store p bl o n = [] := by unfold store; rw [if_neg h]
/-- What the law itself wants of a write. -/
def wants (bl : Bool) (o n : Int) : List Int := (if o ≠ 0 then [o] else []) ++ (if n ≠ 0 ∧ bl = false ∧ n ≠ o then [n] else [])
theorem store_wants (bl : Bool) (o n : Int) : store 1 bl o n = wants bl o n := by
  unfold store wants padd
  rw [if_pos rfl]
  cases bl
  · by_cases h1 : o = 0
    · by_cases h2 : n = 0 <;> simp [h1, h2]
    · by_cases h2 : n = 0
      · simp [h1, h2]
      · by_cases h3 : n = o <;> simp [h1, h2, h3]
  · by_cases h1 : o = 0 <;> simp [h1]
theorem sh_min (ks as_ : List Int) : sh ks as_ ks.length = sh ks as_ (min ks.length as_.length) := by
  suffices h : ∀ d, sh ks as_ (as_.length + d) = sh ks as_ as_.length by
    by_cases hc : ks.length ≤ as_.length
    · rw [Nat.min_eq_left hc]
    · rw [Nat.min_eq_right (by omega)]
      have := h (ks.length - as_.length)
      rw [show as_.length + (ks.length - as_.length) = ks.length by omega] at this
      exact this
  intro d
  induction d with
  | zero => rfl
  | succ d ih => rw [← Nat.add_assoc, sh_past (List.getElem?_eq_none (by omega)), ih]
/-- A book whose lists all lie from block z on, and are of a kind. -/
def BK3 (w : World) (z b : Nat) (Q : Value → Prop) : Prop :=
  ∃ (ks ms : List KL) (vI vW : Value), BookAt w (fun k => z ≤ k) z b ks ms vI vW ∧ ms.length = ks.length ∧ (∀ (i : Nat) (p q : KL), ks[i]? = some p → ms[i]? = some q → p.2 = q.2) ∧ ∀ p ∈ ks, Q p.1
theorem BK3.new (w : World) (z : Nat) (hz : z ≤ w.heap.size) : BK3 (w.alloc (.cells #[.slice none 0 0, .slice none 0 0, .slice none 0 0, .slice none 0 0, .slice none 0 0, .slice none 0 0, .slice none 0 0, .slice none 0 0, .slice none 0 0, .slice none 0 0] 66)) z w.heap.size (fun _ => False) :=
  ⟨[], [], .slice none 0 0, .slice none 0 0, ⟨Blk.new w _ _, hz, hz, World.ownsRow_nil _ _ _ _, World.ownsRow_nil _ _ _ _, fun k e => by simp [Value.ownBlock] at e, fun k e => by simp [Value.ownBlock] at e, fun k e => by simp [Value.ownBlock] at e, fun p hp => by simp at hp, fun p hp => by simp at hp, fun i j p q k hi => by simp at hi, by simp, by simp⟩, rfl, fun i p q hp => by simp at hp, fun p hp => by simp at hp⟩
theorem BK3.drewN {w : World} {z b : Nat} {Q : Value → Prop} (h : BK3 w z b Q) (n : Nat) : BK3 (w.drewN n) z b Q := by
  obtain ⟨ks, ms, vI, vW, h1, h2⟩ := h
  exact ⟨ks, ms, vI, vW, h1.keep (fun _ _ _ => rfl) (fun _ h => h), h2⟩
theorem BK3.ints {w : World} {z b : Nat} {Q : Value → Prop} (h : BK3 w z b Q) (hz : z ≤ w.heap.size) {A : Option Addr} {c : Nat} {xs : List Int} (hv : w.ownsRow z 3 1 (.slice A xs.length c) xs.length (xs.map (.int .i64))) (hx : xs.length ≤ 99000)
    (hQ : ∀ v, Q v → ∀ k, v.ownBlock = some k → (Value.slice A xs.length c).ownBlock ≠ some k) :
    Calls Try.prog 36 #[.pointer (some ⟨b, 0, none⟩), .slice A xs.length c] w fun e w' => e = .returned (.tuple #[]) ∧ Kept (fun k => z ≤ k) w w' ∧ KeepsInts w w' ∧ BK3 w' z b (fun v => Q v ∨ v = .slice A xs.length c) := by
  obtain ⟨ks, ms, vI, vW, h1, h2, h3, h4⟩ := h
  refine (ints_any w (fun k => z ≤ k) z b ks ms vI vW A c xs h1 h2 (fun k hk => by omega) hv hx (fun k e => (hv.lt k e).1) (fun p hp k e => hQ p.1 (h4 p hp) k e) hz).mono ?_
  rintro e w'' ⟨he, hk, hki, ks', ms', vI', vW', hb', hor⟩
  refine ⟨he, hk, hki, ks', ms', vI', vW', hb', ?_⟩
  rcases hor with ⟨rfl, rfl⟩ | ⟨v', rfl, rfl⟩
  · exact ⟨h2, h3, fun p hp => .inl (h4 p hp)⟩
  · refine ⟨by simp [h2], ?_, ?_⟩
    · intro i p q hp hq
      by_cases hi : i < ks.length
      · rw [List.getElem?_append_left hi] at hp
        rw [List.getElem?_append_left (by omega)] at hq
        exact h3 i p q hp hq
      · rw [List.getElem?_append_right (by omega)] at hp
        rw [List.getElem?_append_right (by omega)] at hq
        have e0 : i - ks.length = 0 := by
          rcases Nat.eq_zero_or_pos (i - ks.length) with h0 | h0
          · exact h0
          · rw [List.getElem?_eq_none (by simp; omega)] at hp; cases hp
        rw [h2, e0] at hq
        rw [e0] at hp
        simp at hp hq
        rw [← hp, ← hq]
    · intro p hp
      rcases List.mem_append.1 hp with hp | hp
      · exact .inl (h4 p hp)
      · rw [List.mem_singleton.1 hp]; exact .inr rfl
theorem BK3.apart {w : World} {z b : Nat} {Q : Value → Prop} (h : BK3 w z b Q) (hz : z ≤ w.heap.size) :
    Calls Try.prog 39 #[.pointer (some ⟨b, 0, none⟩)] w fun e w' => e = .returned (.bool true) ∧ Kept (fun k => z ≤ k) w w' := by
  obtain ⟨ks, ms, vI, vW, h1, h2, h3, _⟩ := h
  exact apart_any w _ z b ks ms vI vW h1 h2 h3 (fun k hk => by omega) hz
end Go.Proofs.Ytnolkgciapggdaa.Bar
