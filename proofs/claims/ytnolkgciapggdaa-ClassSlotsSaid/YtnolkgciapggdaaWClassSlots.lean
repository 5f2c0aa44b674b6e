/- The walk of besomlaw3.ClassSlots: it returns true, and writes nothing that was there. -/
import Derived.Test.YtnolkgciapggdaaCls
import Derived.Test.YtnolkgciapggdaaArgs
import Derived.Test.YtnolkgciapggdaaLib2
namespace Go.Proofs.Ytnolkgciapggdaa.ClassSlots
open Go.RowKit Cls
set_option linter.unusedSimpArgs false

/-- What the counts hold behind the first n words: each slot as many as of its words went by. -/
def cnt (s m n k : Nat) : Nat := if k < m then min s (n - k * s) else 0
def arr (s m n : Nat) : Array Value := ((List.range 33).map fun k => Value.int .i64 (cnt s m n k)).toArray
theorem arr_get (s m n k : Nat) (hk : k < 33) : (arr s m n)[k]? = some (.int .i64 (cnt s m n k)) := by
  simp [arr, hk]
theorem arr_zero (s m : Nat) : arr s m 0 = Array.replicate 33 (.int .i64 0) := by
  have h : ∀ k, cnt s m 0 k = 0 := fun k => by unfold cnt; split <;> simp
  simp only [arr, h]
  rfl
theorem cnt_at {s m n : Nat} (hs : 0 < s) (h : n < s * m) : n / s < m ∧ cnt s m n (n / s) = n % s := by
  have hk : n / s < m := by rw [Nat.div_lt_iff_lt_mul hs]; rw [Nat.mul_comm]; exact h
  refine ⟨hk, ?_⟩
  unfold cnt
  rw [if_pos hk]
  have h1 := Nat.div_add_mod n s
  have h2 := Nat.mod_lt n hs
  rw [Nat.mul_comm] at h1
  generalize n / s * s = t at *
  omega
theorem arr_step {s m n : Nat} (hs : 0 < s) (h : n < s * m) : (arr s m n).setIfInBounds (n / s) (.int .i64 ((n % s : Nat) + 1)) = arr s m (n + 1) := by
  have hk := (cnt_at hs h).1
  have h1 := Nat.div_add_mod n s
  have h2 := Nat.mod_lt n hs
  apply Array.ext_getElem?
  intro j
  rw [Array.getElem?_setIfInBounds]
  have hsz : (arr s m n).size = 33 := by simp [arr]
  by_cases hj : j < 33
  · by_cases e : n / s = j
    · subst e
      rw [if_pos rfl, if_pos (by rw [hsz]; exact hj), arr_get s m (n + 1) _ hj]
      have : cnt s m (n + 1) (n / s) = n % s + 1 := by
        unfold cnt
        rw [if_pos hk]
        rw [Nat.mul_comm] at h1
        generalize n / s * s = t at *
        omega
      rw [this]
      simp
    · rw [if_neg e, arr_get s m n j hj, arr_get s m (n + 1) j hj]
      have : cnt s m n j = cnt s m (n + 1) j := by
        unfold cnt
        split
        · rcases Nat.lt_or_ge (n / s) j with hlt | hge
          · have : (n / s + 1) * s ≤ j * s := Nat.mul_le_mul_right _ hlt
            rw [Nat.add_mul, Nat.mul_comm (n / s)] at this
            generalize j * s = t at *
            generalize s * (n / s) = u at *
            omega
          · have : (j + 1) * s ≤ n / s * s := Nat.mul_le_mul_right _ (by omega)
            rw [Nat.add_mul, Nat.mul_comm (n / s)] at this
            generalize j * s = t at *
            generalize s * (n / s) = u at *
            omega
        · rfl
      rw [this]
  · by_cases e : n / s = j
    · subst e
      rw [if_pos rfl, if_neg (by rw [hsz]; exact hj)]
      simp [arr, hj]
    · rw [if_neg e]
      simp [arr, hj]
theorem arr_past {s m n : Nat} (h : s * m ≤ n) : arr s m n = arr s m (n + 1) := by
  unfold arr
  congr 1
  apply List.map_congr_left
  intro k _
  have : cnt s m n k = cnt s m (n + 1) k := by
    unfold cnt
    split
    · rename_i hk
      have : (k + 1) * s ≤ m * s := Nat.mul_le_mul_right _ hk
      rw [Nat.add_mul, Nat.mul_comm m] at this
      generalize k * s = t at *
      omega
    · rfl
  rw [this]
theorem cnt_end {s m k : Nat} (h : s * m ≤ 32) (hk : k < m) : cnt s m 32 k = s := by
  unfold cnt
  rw [if_pos hk]
  have : (k + 1) * s ≤ m * s := Nat.mul_le_mul_right _ hk
  rw [Nat.add_mul, Nat.mul_comm m] at this
  generalize k * s = t at *
  omega

theorem early (c : Int) (w : World) (h : c < 0 ∨ 8 ≤ c) : Calls Try.prog 14 #[.int .i64 c] w fun e w' => e = .returned (.bool true) ∧ Below w.heap.size w w' := by
  by_cases h1 : c < 0
  · clear h
    go_enter Try.func14, Try.ntmps14
    go_wp2_with ((go_at_call 40; refine (Cls.alive _).mono ?_; rintro e w1 ⟨rfl, rfl⟩; dsimp only))
    go_ret
    exact ⟨rfl, Below.refl _ _⟩
  · have h2 : 8 ≤ c := by omega
    clear h
    go_enter Try.func14, Try.ntmps14
    go_wp2_with ((go_at_call 40; refine (Cls.alive _).mono ?_; rintro e w1 ⟨rfl, rfl⟩; dsimp only))
    go_ret
    exact ⟨rfl, Below.refl _ _⟩

def Rel1 (b s m : Nat) (w : World) (r i : Value) (wr : World) : Prop := ∃ n : Nat, n ≤ 32 ∧ i = .int .i64 n ∧ r = .int .i64 ((n - s * m : Nat) : Int) ∧ Blk wr b (arr s m n) 3 ∧ Below w.heap.size w wr
def Rel2 (b s m : Nat) (w : World) (i : Value) (wr : World) : Prop := ∃ k : Nat, k ≤ m ∧ i = .int .i64 k ∧ Blk wr b (arr s m 32) 3 ∧ Below w.heap.size w wr

set_option maxRecDepth 100000 in
set_option maxHeartbeats 1000000 in
theorem core (c : Int) (s m : Nat) (w : World) (c0 : 0 ≤ c) (c8 : c < 8) (hz : csz c = s) (hl : csl c = m) (hs1 : 1 ≤ s) (hs2 : s ≤ 16) (hm1 : 2 ≤ m) (hm2 : m ≤ 32) (hp : s * m ≤ 32) (ht : ctail c = ((32 - s * m : Nat) : Int)) (hof : cof s = c) (hu : cused s = s) :
    Calls Try.prog 14 #[.int .i64 c] w fun e w' => e = .returned (.bool true) ∧ Below w.heap.size w w' := by
  have hmk : ∀ w : World, (Instr.makeSlice 23 (.int .i64 33) (.int .i64 33)).run Try.prog w = .ok (.slice (some ⟨w.heap.size, 0, none⟩) 33 33) (w.alloc (.cells (Array.replicate 33 (.int .i64 0)) 3)) := fun _ => by kernel_rfl
  rw [← arr_zero s m] at hmk
  have HP := Lib.hid hp
  have HT := Lib.hid ht
  have HO := Lib.hid hof
  have HU := Lib.hid hu
  have HZ := Lib.hid hz
  have HL := Lib.hid hl
  clear hp ht hof hu hz hl
  go_enter Try.func14, Try.ntmps14
  go_wp2_with ((go_at_call 40; refine (Cls.alive _).mono ?_; rintro e w1 ⟨rfl, rfl⟩; dsimp only))
  go_loopw [4, 5] (fun r i wr => Rel1 w.heap.size s m w r i wr) (fun _ i _ => 32 - (intOf i).toNat)
  case atStart => exact ⟨0, by omega, rfl, by simp, Blk.new w _ _, (Below.refl _ _).alloc (Nat.le_refl _) _⟩
  case round =>
    clear hmk
    obtain ⟨n, hn, rfl, rfl, B, hw⟩ := hrel
    have Bc := fun k hk => (B.cell k).trans (arr_get s m n k hk)
    by_cases hlt : n < 32
    · by_cases hin : n < s * m
      · obtain ⟨hkm, hck⟩ := cnt_at (by omega) hin
        have hr : n - s * m = 0 := by omega
        have f0 := Bc (n / s) (by omega)
        have f1 := B.free (n / s)
        have hmod : n % s < 16 := Nat.lt_of_lt_of_le (Nat.mod_lt n (by omega)) hs2
        rw [hck] at f0
        have hst := arr_step (by omega) hin
        have hin' : (n : Int) < csl c * csz c := by
          rw [HL.out, HZ.out, Int.mul_comm, ← Int.natCast_mul]
          omega
        have HIN := Lib.hid hin'
        clear hin' hin hck Bc
        rw [hr]
        have HR := Lib.hid hr
        clear hr
        generalize hg : n % s = r at *
        have HST := Lib.hid hst
        clear hst
        clear hg
        go_wp2_with fail
        refine (slot_in _ _ _ (by omega) HIN.out).mono ?_
        rw [HZ.out, ← Int.natCast_ediv]
        rintro e w1 ⟨rfl, rfl⟩
        generalize n / s = k at *
        dsimp only
        go_wp2_with fail
        refine (slots_any _ _).mono ?_
        rw [HL.out]
        rintro e w1 ⟨rfl, rfl⟩
        dsimp only
        go_wp2_with fail
        refine ⟨⟨n + 1, by omega, by go_num, ?_, ?_, hw.setCell (Nat.le_refl _) _⟩, by simp [intOf]; omega⟩
        · have := HR.out
          have : n + 1 - s * m = 0 := by have := HIN.out; rw [HZ.out, HL.out, Int.mul_comm, ← Int.natCast_mul] at this; omega
          rw [this]; rfl
        · exact Blk.of_eq (B.set k _) HST.out
      · have hout : ¬ (n : Int) < csl c * csz c := by
          rw [HL.out, HZ.out, Int.mul_comm, ← Int.natCast_mul]
          omega
        have HOUT := Lib.hid (show (n : Int) < 0 ∨ csl c * csz c ≤ (n : Int) from .inr (by omega))
        have HIN := Lib.hid hin
        have hrb : n - s * m ≤ 32 := by omega
        have HST := Lib.hid (arr_past (s := s) (m := m) (n := n) (by omega))
        have HB := Lib.hid B
        clear hout hin Bc B
        go_wp2_with fail
        refine (slot_out _ _ _ HOUT.out).mono ?_
        rintro e w1 ⟨rfl, rfl⟩
        dsimp only
        go_wp2_with fail
        refine ⟨⟨n + 1, by omega, by go_num, ?_, ?_, hw⟩, by simp [intOf]; omega⟩
        · have := HIN.out
          have : n + 1 - s * m = n - s * m + 1 := by omega
          rw [this]; go_num
        · rw [← HST.out]; exact HB.out
    · obtain rfl : n = 32 := by omega
      have HB := Lib.hid B
      clear Bc B
      have hrb : 32 - s * m ≤ 32 := by omega
      go_wp2_with fail
      go_loopw [8] (fun i wr => Rel2 w.heap.size s m w i wr) (fun i _ => m - (intOf i).toNat)
      case atStart => exact ⟨0, by omega, rfl, HB.out, hw⟩
      case round =>
        clear hw
        obtain ⟨k, hk, rfl, B, hw⟩ := hrel
        by_cases hkm : k < m
        · have f0 := (B.cell k).trans (arr_get s m 32 k (by omega))
          rw [cnt_end HP.out hkm] at f0
          go_wp2_with fail
          refine (slots_any _ _).mono ?_
          rw [HL.out]
          rintro e w1 ⟨rfl, rfl⟩
          dsimp only
          have hz := HZ.out
          have hk0 : (0 : Int) ≤ (k : Int) := by omega
          have hk33 : (k : Int) < 33 := by omega
          go_wp2_with fail
          go_quiet ((go_at_call 42; exact quiet_left (size_any _ _)))
          go_wp2_with fail
          exact ⟨⟨k + 1, by omega, by go_num, B.drewN _, below_drewN hw _⟩, by simp [intOf]; omega⟩
        · go_wp2_with fail
          refine (slots_any _ _).mono ?_
          rw [HL.out]
          rintro e w1 ⟨rfl, rfl⟩
          dsimp only
          go_wp2_with fail
          refine (tail_any _ _).mono ?_
          rw [HT.out]
          rintro e w1 ⟨rfl, rfl⟩
          dsimp only
          go_wp2_with fail
          refine (size_any _ _).mono ?_
          rw [HZ.out]
          rintro e w1 ⟨rfl, rfl⟩
          dsimp only
          go_wp2_with fail
          refine (of_any _ _).mono ?_
          rw [HO.out]
          rintro e w1 ⟨rfl, rfl⟩
          dsimp only
          go_wp2_with fail
          refine (size_any _ _).mono ?_
          rw [HZ.out]
          rintro e w1 ⟨rfl, rfl⟩
          dsimp only
          go_wp2_with fail
          refine (waste_any _ _).mono ?_
          rw [HO.out, HU.out, HZ.out, Int.sub_self]
          rintro e w1 ⟨rfl, rfl⟩
          dsimp only
          go_wp2_with fail
          go_ret
          exact ⟨rfl, hw⟩

theorem walk (c : Int) (w : World) (_wc : (Lit.int .i64 c).wf = true) : Calls Try.prog 14 #[.int .i64 c] w fun e w' => e = .returned (.bool true) ∧ Below w.heap.size w w' := by
  rcases csz_cases c with h | h | rfl | rfl | rfl | rfl | rfl | rfl | rfl | rfl
  · exact early c w (.inl h)
  · exact early c w (.inr h)
  · exact core 0 1 32 w (by decide) (by decide) (by decide) (by decide) (by decide) (by decide) (by decide) (by decide) (by decide) (by decide) (by decide) (by decide)
  · exact core 1 2 16 w (by decide) (by decide) (by decide) (by decide) (by decide) (by decide) (by decide) (by decide) (by decide) (by decide) (by decide) (by decide)
  · exact core 2 3 10 w (by decide) (by decide) (by decide) (by decide) (by decide) (by decide) (by decide) (by decide) (by decide) (by decide) (by decide) (by decide)
  · exact core 3 4 8 w (by decide) (by decide) (by decide) (by decide) (by decide) (by decide) (by decide) (by decide) (by decide) (by decide) (by decide) (by decide)
  · exact core 4 6 5 w (by decide) (by decide) (by decide) (by decide) (by decide) (by decide) (by decide) (by decide) (by decide) (by decide) (by decide) (by decide)
  · exact core 5 8 4 w (by decide) (by decide) (by decide) (by decide) (by decide) (by decide) (by decide) (by decide) (by decide) (by decide) (by decide) (by decide)
  · exact core 6 12 2 w (by decide) (by decide) (by decide) (by decide) (by decide) (by decide) (by decide) (by decide) (by decide) (by decide) (by decide) (by decide)
  · exact core 7 16 2 w (by decide) (by decide) (by decide) (by decide) (by decide) (by decide) (by decide) (by decide) (by decide) (by decide) (by decide) (by decide)
end Go.Proofs.Ytnolkgciapggdaa.ClassSlots
