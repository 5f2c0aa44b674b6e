/- Package sieve: the contract of Clear. -/
import Derived.Test.YtjlbmelpoaffpaaDoorSvA
import Derived.Lib.SliceRun
import Derived.OwnWalk
namespace Go.Proofs.YtjlbmelpoaffpaaDoor.Sv
open Go.RowKit Bit Wd
set_option linter.unusedSimpArgs false
set_option linter.unusedVariables false

/-- Words from one on are 0. -/
def zset (W : List Nat) (o : Nat) : Nat → List Nat
  | 0 => W
  | n + 1 => zset (W.set o 0) (o + 1) n
theorem zset_len : ∀ (n : Nat) (W : List Nat) (o : Nat), (zset W o n).length = W.length
  | 0, _, _ => rfl
  | n + 1, W, o => by rw [zset, zset_len n, List.length_set]
theorem zset_get : ∀ (n : Nat) (W : List Nat) (o i : Nat), (zset W o n)[i]? = if o ≤ i ∧ i < o + n ∧ i < W.length then some 0 else W[i]?
  | 0, W, o, i => by rw [zset, if_neg (by omega)]
  | n + 1, W, o, i => by
    rw [zset, zset_get n, List.length_set, List.getElem?_set]
    by_cases h : o = i
    · subst h
      rw [if_neg (by omega), if_pos rfl]
      by_cases h2 : o < W.length
      · rw [if_pos h2, if_pos (by omega)]
      · rw [if_neg h2, if_neg (by omega), List.getElem?_eq_none (by omega)]
    · rw [if_neg h]
      by_cases h2 : o ≤ i ∧ i < o + (n + 1) ∧ i < W.length
      · rw [if_pos h2, if_pos (by omega)]
      · rw [if_neg h2, if_neg (by omega)]
theorem zset_all (W : List Nat) : zset W 0 W.length = List.replicate W.length 0 := by
  apply List.ext_getElem?
  intro i
  rw [zset_get, List.getElem?_replicate]
  by_cases h : i < W.length
  · rw [if_pos ⟨by omega, by omega, h⟩, if_pos h]
  · rw [if_neg (by omega), if_neg h, List.getElem?_eq_none (by omega)]
theorem blk_setCells (g : Nat) : ∀ (n o : Nat) (W : List Nat) (w : World), Blk w g (cw W) 23 → Blk (w.setCells g o (List.replicate n (.int .u64 0))) g (cw (zset W o n)) 23
  | 0, _, _, _, h => h
  | n + 1, o, W, w, h => blk_setCells g n (o + 1) (W.set o 0) _ ((h.set o (.int .u64 0)).of_eq (cw_set W o 0))
theorem kept_setCells (g : Nat) {a : World} : ∀ (vs : List Value) (o : Nat) (w : World) {S : Nat → Prop}, S g → Kept S a w → Kept S a (w.setCells g o vs)
  | [], _, _, _, _, h => h
  | v :: r, o, w, S, hs, h => kept_setCells g r (o + 1) _ hs (h.set (p := ⟨g, o, none⟩) (.inl hs) v)
theorem zero_u64 (w : World) : (zeroValue 23).run Tryd.prog w = .ok (.int .u64 0) w := by kernel_rfl
theorem run_clear {w : World} {g : Nat} {W : List Nat} (h : Blk w g (cw W) 23) (hn : 0 < W.length) (ty : TypeId) :
    (Builtin.clear_ #[73] ty #[.slice (some ⟨g, 0, none⟩) W.length W.length]).run Tryd.prog w = .ok (.tuple #[]) (w.setCells g 0 (List.replicate W.length (.int .u64 0))) :=
  Lib.run_clear_slice w 73 23 ty (.int .u64 0) Tryd.underlying73 zero_u64 rfl rfl g 0 W.length W.length hn
    (fun j hj => by rw [h.cell, Array.getElem?_eq_getElem (by rw [cw_size]; omega)]; rfl) (fun j hj => h.free _)
set_option maxRecDepth 20000 in
theorem clear_some (b g n : Nat) (W : List Nat) (w : World) (h : SieveAt w b g n W) (hl : 0 < W.length) :
    Calls Tryd.prog 21 #[.pointer (some ⟨b, 0, none⟩)] w fun e w' => e = .returned (.tuple #[]) ∧ SieveAt w' b g n (List.replicate ((n + 63) / 64) 0) ∧ Kept (fun i => i = g) w w' := by
  obtain ⟨c0, c1, f0, f1⟩ := h.blk.two
  have HRUN := Lib.hid (fun ty => run_clear h.row hl ty)
  have hk := kept_setCells g (List.replicate W.length (Value.int .u64 0)) 0 w (S := fun i => i = g) rfl (Kept.refl _ _)
  have hr := blk_setCells g W.length 0 W w h.row
  rw [zset_all] at hr
  have ho := zero_ok h.hn
  have HF := Lib.hid (show SieveAt (w.setCells g 0 (List.replicate W.length (.int .u64 0))) b g n (List.replicate ((n + 63) / 64) 0) from
    ⟨by rw [List.length_replicate, ← h.hw]; exact hk.blk h.blk h.ne, by rw [← h.hw]; exact hr, ho.hn, ho.hw, ho.lt, ho.inn⟩)
  have HK := Lib.hid hk
  clear h hr hk ho
  generalize w.setCells g 0 (List.replicate W.length (.int .u64 0)) = w2 at *
  go_enter Tryd.func21, Tryd.ntmps21
  go_wp2_with (simp only [HRUN.out])
  go_end0
  exact ⟨rfl, HF.out, HK.out⟩
theorem run_clear0 (w : World) (g : Nat) (ty : TypeId) : (Builtin.clear_ #[73] ty #[.slice (some ⟨g, 0, none⟩) 0 0]).run Tryd.prog w = .ok (.tuple #[]) w := by
  have hz := zero_u64 w
  simp [Builtin.clear_, run_underlying Tryd.underlying73, hz, Result.andThen, Builtin.zeroCells, storeCells]
set_option maxRecDepth 20000 in
theorem clear_zero (b g n : Nat) (W : List Nat) (w : World) (h : SieveAt w b g n W) (hl : W.length = 0) :
    Calls Tryd.prog 21 #[.pointer (some ⟨b, 0, none⟩)] w fun e w' => e = .returned (.tuple #[]) ∧ w = w' := by
  obtain ⟨c0, c1, f0, f1⟩ := h.blk.two
  rw [hl] at c1
  have HRUN := Lib.hid (fun ty => run_clear0 w g ty)
  clear h hl
  go_enter Tryd.func21, Tryd.ntmps21
  go_wp2_with (simp only [HRUN.out])
  go_end0
  exact ⟨rfl, rfl⟩
theorem clear_any (b g n : Nat) (W : List Nat) (w : World) (h : SieveAt w b g n W) :
    Calls Tryd.prog 21 #[.pointer (some ⟨b, 0, none⟩)] w fun e w' => e = .returned (.tuple #[]) ∧ SieveAt w' b g n (List.replicate ((n + 63) / 64) 0) ∧ Kept (fun i => i = g) w w' := by
  by_cases hl : 0 < W.length
  · exact clear_some b g n W w h hl
  · have h0 : W = [] := List.eq_nil_of_length_eq_zero (by omega)
    have hz : List.replicate ((n + 63) / 64) 0 = W := by rw [← h.hw, h0]; rfl
    rw [hz]
    exact (clear_zero b g n W w h (by omega)).mono fun e w' ⟨he, hw⟩ => ⟨he, hw ▸ h, hw ▸ Kept.refl _ _⟩
theorem clear_nil (w : World) : Calls Tryd.prog 21 #[.pointer none] w fun e w' => e = .returned (.tuple #[]) ∧ w = w' := by
  go_enter Tryd.func21, Tryd.ntmps21
  go_wp2_with fail
  go_end0
  exact ⟨rfl, rfl⟩
end Go.Proofs.YtjlbmelpoaffpaaDoor.Sv
