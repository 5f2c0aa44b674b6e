/- The walk of besomlaw18.BarrierArgs: it returns true, and writes nothing that was there. -/
import Derived.Test.YtnolkgciapggdaaBarA
import Derived.Test.YtnolkgciapggdaaWBarrierPhases
namespace Go.Proofs.Ytnolkgciapggdaa.BarrierArgs
open Go.RowKit Bar
open BarrierPhases (cells1)
set_option linter.unusedSimpArgs false
set_option linter.unusedVariables false

theorem reads_blk {w : World} {b B n : Nat} {cs : Array Value} {T : TypeId} {xs : List Value} (h : Blk w b cs T) (hB : b < B) (hx : cs.toList = xs) (hn : xs.length = n) (hm : n ≤ maxLen) : Reads w B 1 (some ⟨b, 0, none⟩) n n xs := by
  refine ⟨Nat.le_refl _, hm, by omega, fun _ => ⟨b, 0, rfl, hB, fun j u hu => ?_⟩⟩
  rw [Nat.zero_add, h.cell j, ← hu, ← hx]
  simp

theorem args_at (f : Int) (j : Nat) (u0 u1 : Value) (b off nF cF : Nat) (KA : Option Addr) (nK cK : Nat) (ks : List Int) (aA : Option Addr) (nA cA : Nat) (as_ : List Int) (w : World) (hj : f = j)
    (hm : nF ≤ 9223372036854775807) (hf : j < nF) (hb : b < w.heap.size) (hc : w.cell? ⟨b, off + j * 5, none⟩ = some (.slice KA nK cK))
    (lk : ks.length = nK) (RK : Reads w w.heap.size 1 KA nK cK (ks.map (.int .i64))) (la : as_.length = nA) (la' : nA ≤ 1000000) (wa : ∀ z ∈ as_, (Lit.int .i64 z).wf = true) (RA : Reads w w.heap.size 1 aA nA cA (as_.map (.int .i64))) :
    Calls Try.prog 31 #[.int .i64 1, .agg #[u0, u1, .slice (some ⟨b, off, none⟩) nF cF], .int .i64 f, .slice aA nA cA] w (Gives (sh ks as_ ks.length) w) := by
  subst hj
  exact args_mark j u0 u1 b off nF cF KA nK cK ks aA nA cA as_ w hm hf hb hc lk RK la la' wa RA

set_option maxRecDepth 100000 in
set_option maxHeartbeats 1000000 in
theorem idle (a b c p : Int) (w : World) (h : (p == 1) = false) (h' : (p != 1) = true) :
    Calls Try.prog 9 #[.int .i64 a, .int .i64 b, .int .i64 c, .int .i64 p] w fun e w' => e = .returned (.bool true) ∧ Below w.heap.size w w' := by
  go_enter Try.func9, Try.ntmps9
  go_wp2_with fail
  refine (alive _).mono ?_
  rintro e w0 ⟨rfl, hb⟩
  have hw := hb
  clear hb
  dsimp only
  go_wp2_with fail
  have hW := fresh_alloc (fresh_alloc (fresh_alloc (fresh_alloc (fresh_alloc (fresh_alloc hw (.cells #[.int .i64 1] 3)) (.cells #[.slice (some ⟨w0.heap.size, 0, none⟩) 1 1] 46)) (.cells #[.int .i64 16, .int .i64 1, .int .i64 16] 3)) (.cells #[.slice (some ⟨w0.heap.size + 1 + 1, 0, none⟩) 3 3, .int .i64 0, .int .i64 3, .slice none 0 0, .slice none 0 0] 50)) (.cells #[.slice none 0 0, .slice (some ⟨w0.heap.size + 1, 0, none⟩) 1 1, .slice (some ⟨w0.heap.size + 1 + 1 + 1, 0, none⟩) 1 1] 53)) (.cells #[.int .i64 a, .int .i64 b, .int .i64 c] 3)
  have b1 := ((((((Blk.new ((w0.alloc (.cells #[.int .i64 1] 3)).alloc (.cells #[.slice (some ⟨w0.heap.size, 0, none⟩) 1 1] 46)) #[.int .i64 16, .int .i64 1, .int .i64 16] 3)).alloc (.cells #[.slice (some ⟨w0.heap.size + 1 + 1, 0, none⟩) 3 3, .int .i64 0, .int .i64 3, .slice none 0 0, .slice none 0 0] 50)).alloc (.cells #[.slice none 0 0, .slice (some ⟨w0.heap.size + 1, 0, none⟩) 1 1, .slice (some ⟨w0.heap.size + 1 + 1 + 1, 0, none⟩) 1 1] 53))).alloc (.cells #[.int .i64 a, .int .i64 b, .int .i64 c] 3))
  have b2 := ((Blk.new (((w0.alloc (.cells #[.int .i64 1] 3)).alloc (.cells #[.slice (some ⟨w0.heap.size, 0, none⟩) 1 1] 46)).alloc (.cells #[.int .i64 16, .int .i64 1, .int .i64 16] 3)) #[.slice (some ⟨w0.heap.size + 1 + 1, 0, none⟩) 3 3, .int .i64 0, .int .i64 3, .slice none 0 0, .slice none 0 0] 50).alloc (.cells #[.slice none 0 0, .slice (some ⟨w0.heap.size + 1, 0, none⟩) 1 1, .slice (some ⟨w0.heap.size + 1 + 1 + 1, 0, none⟩) 1 1] 53)).alloc (.cells #[.int .i64 a, .int .i64 b, .int .i64 c] 3)
  have b3 := (Blk.new ((((w0.alloc (.cells #[.int .i64 1] 3)).alloc (.cells #[.slice (some ⟨w0.heap.size, 0, none⟩) 1 1] 46)).alloc (.cells #[.int .i64 16, .int .i64 1, .int .i64 16] 3)).alloc (.cells #[.slice (some ⟨w0.heap.size + 1 + 1, 0, none⟩) 3 3, .int .i64 0, .int .i64 3, .slice none 0 0, .slice none 0 0] 50)) #[.slice none 0 0, .slice (some ⟨w0.heap.size + 1, 0, none⟩) 1 1, .slice (some ⟨w0.heap.size + 1 + 1 + 1, 0, none⟩) 1 1] 53).alloc (.cells #[.int .i64 a, .int .i64 b, .int .i64 c] 3)
  have b4 := Blk.new (((((w0.alloc (.cells #[.int .i64 1] 3)).alloc (.cells #[.slice (some ⟨w0.heap.size, 0, none⟩) 1 1] 46)).alloc (.cells #[.int .i64 16, .int .i64 1, .int .i64 16] 3)).alloc (.cells #[.slice (some ⟨w0.heap.size + 1 + 1, 0, none⟩) 3 3, .int .i64 0, .int .i64 3, .slice none 0 0, .slice none 0 0] 50)).alloc (.cells #[.slice none 0 0, .slice (some ⟨w0.heap.size + 1, 0, none⟩) 1 1, .slice (some ⟨w0.heap.size + 1 + 1 + 1, 0, none⟩) 1 1] 53)) #[.int .i64 a, .int .i64 b, .int .i64 c] 3
  simp only [World.size_alloc] at b1 b2 b3 b4
  generalize (((((w0.alloc (.cells #[.int .i64 1] 3)).alloc (.cells #[.slice (some ⟨w0.heap.size, 0, none⟩) 1 1] 46)).alloc (.cells #[.int .i64 16, .int .i64 1, .int .i64 16] 3)).alloc (.cells #[.slice (some ⟨w0.heap.size + 1 + 1, 0, none⟩) 3 3, .int .i64 0, .int .i64 3, .slice none 0 0, .slice none 0 0] 50)).alloc (.cells #[.slice none 0 0, .slice (some ⟨w0.heap.size + 1, 0, none⟩) 1 1, .slice (some ⟨w0.heap.size + 1 + 1 + 1, 0, none⟩) 1 1] 53)).alloc (.cells #[.int .i64 a, .int .i64 b, .int .i64 c] 3) = W at *
  clear hw
  refine (args_idle _ _ _ _ _ _ _ _ _ _ _ (by omega) (.inl h)).mono ?_
  rintro e w1 ⟨a1, c1, rfl, _, hb⟩
  have hw1 := fresh_call hW hb
  clear hW hb b1 b2 b3 b4
  dsimp only
  go_wp2_with fail
  go_ret
  exact ⟨rfl, hw1⟩

set_option maxRecDepth 100000 in
set_option maxHeartbeats 1000000 in
theorem m00 (b _z : Int) (w : World) (wa : (Lit.int .i64 0).wf = true) (wb : (Lit.int .i64 b).wf = true) (wc : (Lit.int .i64 0).wf = true)  :
    Calls Try.prog 9 #[.int .i64 0, .int .i64 b, .int .i64 0, .int .i64 1] w fun e w' => e = .returned (.bool true) ∧ Below w.heap.size w w' := by
  have es : sh [16, 1, 16] [0, b, 0] [(16 : Int), 1, 16].length = [] := by simp [sh, padd]
  have HS := Lib.hid es
  have HWF := Lib.hid (show ∀ z ∈ [0, b, 0], (Lit.int .i64 z).wf = true by intro z hz; simp at hz; rcases hz with rfl | rfl | rfl <;> assumption)
  clear es wa wb wc
  go_enter Try.func9, Try.ntmps9
  go_wp2_with fail
  refine (alive _).mono ?_
  rintro e w0 ⟨rfl, hb⟩
  have hw := hb
  clear hb
  dsimp only
  go_wp2_with fail
  have hW := fresh_alloc (fresh_alloc (fresh_alloc (fresh_alloc (fresh_alloc (fresh_alloc hw (.cells #[.int .i64 1] 3)) (.cells #[.slice (some ⟨w0.heap.size, 0, none⟩) 1 1] 46)) (.cells #[.int .i64 16, .int .i64 1, .int .i64 16] 3)) (.cells #[.slice (some ⟨w0.heap.size + 1 + 1, 0, none⟩) 3 3, .int .i64 0, .int .i64 3, .slice none 0 0, .slice none 0 0] 50)) (.cells #[.slice none 0 0, .slice (some ⟨w0.heap.size + 1, 0, none⟩) 1 1, .slice (some ⟨w0.heap.size + 1 + 1 + 1, 0, none⟩) 1 1] 53)) (.cells #[.int .i64 0, .int .i64 b, .int .i64 0] 3)
  have b1 := ((((((Blk.new ((w0.alloc (.cells #[.int .i64 1] 3)).alloc (.cells #[.slice (some ⟨w0.heap.size, 0, none⟩) 1 1] 46)) #[.int .i64 16, .int .i64 1, .int .i64 16] 3)).alloc (.cells #[.slice (some ⟨w0.heap.size + 1 + 1, 0, none⟩) 3 3, .int .i64 0, .int .i64 3, .slice none 0 0, .slice none 0 0] 50)).alloc (.cells #[.slice none 0 0, .slice (some ⟨w0.heap.size + 1, 0, none⟩) 1 1, .slice (some ⟨w0.heap.size + 1 + 1 + 1, 0, none⟩) 1 1] 53))).alloc (.cells #[.int .i64 0, .int .i64 b, .int .i64 0] 3))
  have b2 := ((Blk.new (((w0.alloc (.cells #[.int .i64 1] 3)).alloc (.cells #[.slice (some ⟨w0.heap.size, 0, none⟩) 1 1] 46)).alloc (.cells #[.int .i64 16, .int .i64 1, .int .i64 16] 3)) #[.slice (some ⟨w0.heap.size + 1 + 1, 0, none⟩) 3 3, .int .i64 0, .int .i64 3, .slice none 0 0, .slice none 0 0] 50).alloc (.cells #[.slice none 0 0, .slice (some ⟨w0.heap.size + 1, 0, none⟩) 1 1, .slice (some ⟨w0.heap.size + 1 + 1 + 1, 0, none⟩) 1 1] 53)).alloc (.cells #[.int .i64 0, .int .i64 b, .int .i64 0] 3)
  have b3 := (Blk.new ((((w0.alloc (.cells #[.int .i64 1] 3)).alloc (.cells #[.slice (some ⟨w0.heap.size, 0, none⟩) 1 1] 46)).alloc (.cells #[.int .i64 16, .int .i64 1, .int .i64 16] 3)).alloc (.cells #[.slice (some ⟨w0.heap.size + 1 + 1, 0, none⟩) 3 3, .int .i64 0, .int .i64 3, .slice none 0 0, .slice none 0 0] 50)) #[.slice none 0 0, .slice (some ⟨w0.heap.size + 1, 0, none⟩) 1 1, .slice (some ⟨w0.heap.size + 1 + 1 + 1, 0, none⟩) 1 1] 53).alloc (.cells #[.int .i64 0, .int .i64 b, .int .i64 0] 3)
  have b4 := Blk.new (((((w0.alloc (.cells #[.int .i64 1] 3)).alloc (.cells #[.slice (some ⟨w0.heap.size, 0, none⟩) 1 1] 46)).alloc (.cells #[.int .i64 16, .int .i64 1, .int .i64 16] 3)).alloc (.cells #[.slice (some ⟨w0.heap.size + 1 + 1, 0, none⟩) 3 3, .int .i64 0, .int .i64 3, .slice none 0 0, .slice none 0 0] 50)).alloc (.cells #[.slice none 0 0, .slice (some ⟨w0.heap.size + 1, 0, none⟩) 1 1, .slice (some ⟨w0.heap.size + 1 + 1 + 1, 0, none⟩) 1 1] 53)) #[.int .i64 0, .int .i64 b, .int .i64 0] 3
  simp only [World.size_alloc] at b1 b2 b3 b4
  generalize (((((w0.alloc (.cells #[.int .i64 1] 3)).alloc (.cells #[.slice (some ⟨w0.heap.size, 0, none⟩) 1 1] 46)).alloc (.cells #[.int .i64 16, .int .i64 1, .int .i64 16] 3)).alloc (.cells #[.slice (some ⟨w0.heap.size + 1 + 1, 0, none⟩) 3 3, .int .i64 0, .int .i64 3, .slice none 0 0, .slice none 0 0] 50)).alloc (.cells #[.slice none 0 0, .slice (some ⟨w0.heap.size + 1, 0, none⟩) 1 1, .slice (some ⟨w0.heap.size + 1 + 1 + 1, 0, none⟩) 1 1] 53)).alloc (.cells #[.int .i64 0, .int .i64 b, .int .i64 0] 3) = W at *
  clear hw
  refine (args_at 0 0 _ _ _ _ _ _ _ 3 3 [16, 1, 16] _ 3 3 [0, b, 0] W rfl (by omega) (by omega) b2.lt (b2.cell 0) rfl (reads_blk b1 b1.lt rfl rfl (by decide)) rfl (by omega) HWF.out (reads_blk b4 b4.lt rfl rfl (by decide))).mono ?_
  rw [HS.out]
  rintro e w1 ⟨a1, c1, rfl, ho, hb⟩
  clear ho b1 b2 b4
  replace b3 := b3.call hb
  have hw1 := fresh_call hW hb
  clear hW hb
  obtain ⟨p0, p1, p2, p3, p4, p5⟩ := b3.three
  have plt := b3.lt
  have B3 := Lib.hid b3
  clear b3
  dsimp only
  go_wp2_with fail
  refine (args_idle _ _ _ _ _ _ _ _ _ _ _ (by omega) (.inr (.inr (by omega)))).mono ?_
  rintro e w2 ⟨a2, c2, rfl, _, hb⟩
  have hw2 := fresh_call (fresh_alloc hw1 _) hb
  dsimp only
  go_wp2_with fail
  go_ret
  exact ⟨rfl, hw2⟩

set_option maxRecDepth 100000 in
set_option maxHeartbeats 1000000 in
theorem m01 (b c : Int) (w : World) (wa : (Lit.int .i64 0).wf = true) (wb : (Lit.int .i64 b).wf = true) (wc : (Lit.int .i64 c).wf = true) (h2 : (c == 0) = false) (h2' : (c != 0) = true) :
    Calls Try.prog 9 #[.int .i64 0, .int .i64 b, .int .i64 c, .int .i64 1] w fun e w' => e = .returned (.bool true) ∧ Below w.heap.size w w' := by
  have es : sh [16, 1, 16] [0, b, c] [(16 : Int), 1, 16].length = [c] := by
    have h := (by simpa using h2 : ¬ c = 0)
    simp [sh, padd, h]
  have HS := Lib.hid es
  have HWF := Lib.hid (show ∀ z ∈ [0, b, c], (Lit.int .i64 z).wf = true by intro z hz; simp at hz; rcases hz with rfl | rfl | rfl <;> assumption)
  clear es wa wb wc
  go_enter Try.func9, Try.ntmps9
  go_wp2_with fail
  refine (alive _).mono ?_
  rintro e w0 ⟨rfl, hb⟩
  have hw := hb
  clear hb
  dsimp only
  go_wp2_with fail
  have hW := fresh_alloc (fresh_alloc (fresh_alloc (fresh_alloc (fresh_alloc (fresh_alloc hw (.cells #[.int .i64 1] 3)) (.cells #[.slice (some ⟨w0.heap.size, 0, none⟩) 1 1] 46)) (.cells #[.int .i64 16, .int .i64 1, .int .i64 16] 3)) (.cells #[.slice (some ⟨w0.heap.size + 1 + 1, 0, none⟩) 3 3, .int .i64 0, .int .i64 3, .slice none 0 0, .slice none 0 0] 50)) (.cells #[.slice none 0 0, .slice (some ⟨w0.heap.size + 1, 0, none⟩) 1 1, .slice (some ⟨w0.heap.size + 1 + 1 + 1, 0, none⟩) 1 1] 53)) (.cells #[.int .i64 0, .int .i64 b, .int .i64 c] 3)
  have b1 := ((((((Blk.new ((w0.alloc (.cells #[.int .i64 1] 3)).alloc (.cells #[.slice (some ⟨w0.heap.size, 0, none⟩) 1 1] 46)) #[.int .i64 16, .int .i64 1, .int .i64 16] 3)).alloc (.cells #[.slice (some ⟨w0.heap.size + 1 + 1, 0, none⟩) 3 3, .int .i64 0, .int .i64 3, .slice none 0 0, .slice none 0 0] 50)).alloc (.cells #[.slice none 0 0, .slice (some ⟨w0.heap.size + 1, 0, none⟩) 1 1, .slice (some ⟨w0.heap.size + 1 + 1 + 1, 0, none⟩) 1 1] 53))).alloc (.cells #[.int .i64 0, .int .i64 b, .int .i64 c] 3))
  have b2 := ((Blk.new (((w0.alloc (.cells #[.int .i64 1] 3)).alloc (.cells #[.slice (some ⟨w0.heap.size, 0, none⟩) 1 1] 46)).alloc (.cells #[.int .i64 16, .int .i64 1, .int .i64 16] 3)) #[.slice (some ⟨w0.heap.size + 1 + 1, 0, none⟩) 3 3, .int .i64 0, .int .i64 3, .slice none 0 0, .slice none 0 0] 50).alloc (.cells #[.slice none 0 0, .slice (some ⟨w0.heap.size + 1, 0, none⟩) 1 1, .slice (some ⟨w0.heap.size + 1 + 1 + 1, 0, none⟩) 1 1] 53)).alloc (.cells #[.int .i64 0, .int .i64 b, .int .i64 c] 3)
  have b3 := (Blk.new ((((w0.alloc (.cells #[.int .i64 1] 3)).alloc (.cells #[.slice (some ⟨w0.heap.size, 0, none⟩) 1 1] 46)).alloc (.cells #[.int .i64 16, .int .i64 1, .int .i64 16] 3)).alloc (.cells #[.slice (some ⟨w0.heap.size + 1 + 1, 0, none⟩) 3 3, .int .i64 0, .int .i64 3, .slice none 0 0, .slice none 0 0] 50)) #[.slice none 0 0, .slice (some ⟨w0.heap.size + 1, 0, none⟩) 1 1, .slice (some ⟨w0.heap.size + 1 + 1 + 1, 0, none⟩) 1 1] 53).alloc (.cells #[.int .i64 0, .int .i64 b, .int .i64 c] 3)
  have b4 := Blk.new (((((w0.alloc (.cells #[.int .i64 1] 3)).alloc (.cells #[.slice (some ⟨w0.heap.size, 0, none⟩) 1 1] 46)).alloc (.cells #[.int .i64 16, .int .i64 1, .int .i64 16] 3)).alloc (.cells #[.slice (some ⟨w0.heap.size + 1 + 1, 0, none⟩) 3 3, .int .i64 0, .int .i64 3, .slice none 0 0, .slice none 0 0] 50)).alloc (.cells #[.slice none 0 0, .slice (some ⟨w0.heap.size + 1, 0, none⟩) 1 1, .slice (some ⟨w0.heap.size + 1 + 1 + 1, 0, none⟩) 1 1] 53)) #[.int .i64 0, .int .i64 b, .int .i64 c] 3
  simp only [World.size_alloc] at b1 b2 b3 b4
  generalize (((((w0.alloc (.cells #[.int .i64 1] 3)).alloc (.cells #[.slice (some ⟨w0.heap.size, 0, none⟩) 1 1] 46)).alloc (.cells #[.int .i64 16, .int .i64 1, .int .i64 16] 3)).alloc (.cells #[.slice (some ⟨w0.heap.size + 1 + 1, 0, none⟩) 3 3, .int .i64 0, .int .i64 3, .slice none 0 0, .slice none 0 0] 50)).alloc (.cells #[.slice none 0 0, .slice (some ⟨w0.heap.size + 1, 0, none⟩) 1 1, .slice (some ⟨w0.heap.size + 1 + 1 + 1, 0, none⟩) 1 1] 53)).alloc (.cells #[.int .i64 0, .int .i64 b, .int .i64 c] 3) = W at *
  clear hw
  refine (args_at 0 0 _ _ _ _ _ _ _ 3 3 [16, 1, 16] _ 3 3 [0, b, c] W rfl (by omega) (by omega) b2.lt (b2.cell 0) rfl (reads_blk b1 b1.lt rfl rfl (by decide)) rfl (by omega) HWF.out (reads_blk b4 b4.lt rfl rfl (by decide))).mono ?_
  rw [HS.out]
  rintro e w1 ⟨a1, c1, rfl, ho, hb⟩
  obtain ⟨g, rfl, hg, hc⟩ := cells1 ho
  have k1 := hc 0 _ rfl
  clear hc
  clear ho b1 b2 b4
  replace b3 := b3.call hb
  have hw1 := fresh_call hW hb
  clear hW hb
  obtain ⟨p0, p1, p2, p3, p4, p5⟩ := b3.three
  have plt := b3.lt
  have B3 := Lib.hid b3
  clear b3
  dsimp only
  go_wp2_with fail
  refine (args_idle _ _ _ _ _ _ _ _ _ _ _ (by omega) (.inr (.inr (by omega)))).mono ?_
  rintro e w2 ⟨a2, c2, rfl, _, hb⟩
  have hw2 := fresh_call (fresh_alloc hw1 _) hb
  dsimp only
  go_wp2_with fail
  go_ret
  exact ⟨rfl, hw2⟩

set_option maxRecDepth 100000 in
set_option maxHeartbeats 1000000 in
theorem m10 (a b : Int) (w : World) (wa : (Lit.int .i64 a).wf = true) (wb : (Lit.int .i64 b).wf = true) (wc : (Lit.int .i64 0).wf = true) (h1 : (a == 0) = false) (h1' : (a != 0) = true) :
    Calls Try.prog 9 #[.int .i64 a, .int .i64 b, .int .i64 0, .int .i64 1] w fun e w' => e = .returned (.bool true) ∧ Below w.heap.size w w' := by
  have es : sh [16, 1, 16] [a, b, 0] [(16 : Int), 1, 16].length = [a] := by
    have h := (by simpa using h1 : ¬ a = 0)
    simp [sh, padd, h]
  have HS := Lib.hid es
  have HWF := Lib.hid (show ∀ z ∈ [a, b, 0], (Lit.int .i64 z).wf = true by intro z hz; simp at hz; rcases hz with rfl | rfl | rfl <;> assumption)
  clear es wa wb wc
  go_enter Try.func9, Try.ntmps9
  go_wp2_with fail
  refine (alive _).mono ?_
  rintro e w0 ⟨rfl, hb⟩
  have hw := hb
  clear hb
  dsimp only
  go_wp2_with fail
  have hW := fresh_alloc (fresh_alloc (fresh_alloc (fresh_alloc (fresh_alloc (fresh_alloc hw (.cells #[.int .i64 1] 3)) (.cells #[.slice (some ⟨w0.heap.size, 0, none⟩) 1 1] 46)) (.cells #[.int .i64 16, .int .i64 1, .int .i64 16] 3)) (.cells #[.slice (some ⟨w0.heap.size + 1 + 1, 0, none⟩) 3 3, .int .i64 0, .int .i64 3, .slice none 0 0, .slice none 0 0] 50)) (.cells #[.slice none 0 0, .slice (some ⟨w0.heap.size + 1, 0, none⟩) 1 1, .slice (some ⟨w0.heap.size + 1 + 1 + 1, 0, none⟩) 1 1] 53)) (.cells #[.int .i64 a, .int .i64 b, .int .i64 0] 3)
  have b1 := ((((((Blk.new ((w0.alloc (.cells #[.int .i64 1] 3)).alloc (.cells #[.slice (some ⟨w0.heap.size, 0, none⟩) 1 1] 46)) #[.int .i64 16, .int .i64 1, .int .i64 16] 3)).alloc (.cells #[.slice (some ⟨w0.heap.size + 1 + 1, 0, none⟩) 3 3, .int .i64 0, .int .i64 3, .slice none 0 0, .slice none 0 0] 50)).alloc (.cells #[.slice none 0 0, .slice (some ⟨w0.heap.size + 1, 0, none⟩) 1 1, .slice (some ⟨w0.heap.size + 1 + 1 + 1, 0, none⟩) 1 1] 53))).alloc (.cells #[.int .i64 a, .int .i64 b, .int .i64 0] 3))
  have b2 := ((Blk.new (((w0.alloc (.cells #[.int .i64 1] 3)).alloc (.cells #[.slice (some ⟨w0.heap.size, 0, none⟩) 1 1] 46)).alloc (.cells #[.int .i64 16, .int .i64 1, .int .i64 16] 3)) #[.slice (some ⟨w0.heap.size + 1 + 1, 0, none⟩) 3 3, .int .i64 0, .int .i64 3, .slice none 0 0, .slice none 0 0] 50).alloc (.cells #[.slice none 0 0, .slice (some ⟨w0.heap.size + 1, 0, none⟩) 1 1, .slice (some ⟨w0.heap.size + 1 + 1 + 1, 0, none⟩) 1 1] 53)).alloc (.cells #[.int .i64 a, .int .i64 b, .int .i64 0] 3)
  have b3 := (Blk.new ((((w0.alloc (.cells #[.int .i64 1] 3)).alloc (.cells #[.slice (some ⟨w0.heap.size, 0, none⟩) 1 1] 46)).alloc (.cells #[.int .i64 16, .int .i64 1, .int .i64 16] 3)).alloc (.cells #[.slice (some ⟨w0.heap.size + 1 + 1, 0, none⟩) 3 3, .int .i64 0, .int .i64 3, .slice none 0 0, .slice none 0 0] 50)) #[.slice none 0 0, .slice (some ⟨w0.heap.size + 1, 0, none⟩) 1 1, .slice (some ⟨w0.heap.size + 1 + 1 + 1, 0, none⟩) 1 1] 53).alloc (.cells #[.int .i64 a, .int .i64 b, .int .i64 0] 3)
  have b4 := Blk.new (((((w0.alloc (.cells #[.int .i64 1] 3)).alloc (.cells #[.slice (some ⟨w0.heap.size, 0, none⟩) 1 1] 46)).alloc (.cells #[.int .i64 16, .int .i64 1, .int .i64 16] 3)).alloc (.cells #[.slice (some ⟨w0.heap.size + 1 + 1, 0, none⟩) 3 3, .int .i64 0, .int .i64 3, .slice none 0 0, .slice none 0 0] 50)).alloc (.cells #[.slice none 0 0, .slice (some ⟨w0.heap.size + 1, 0, none⟩) 1 1, .slice (some ⟨w0.heap.size + 1 + 1 + 1, 0, none⟩) 1 1] 53)) #[.int .i64 a, .int .i64 b, .int .i64 0] 3
  simp only [World.size_alloc] at b1 b2 b3 b4
  generalize (((((w0.alloc (.cells #[.int .i64 1] 3)).alloc (.cells #[.slice (some ⟨w0.heap.size, 0, none⟩) 1 1] 46)).alloc (.cells #[.int .i64 16, .int .i64 1, .int .i64 16] 3)).alloc (.cells #[.slice (some ⟨w0.heap.size + 1 + 1, 0, none⟩) 3 3, .int .i64 0, .int .i64 3, .slice none 0 0, .slice none 0 0] 50)).alloc (.cells #[.slice none 0 0, .slice (some ⟨w0.heap.size + 1, 0, none⟩) 1 1, .slice (some ⟨w0.heap.size + 1 + 1 + 1, 0, none⟩) 1 1] 53)).alloc (.cells #[.int .i64 a, .int .i64 b, .int .i64 0] 3) = W at *
  clear hw
  refine (args_at 0 0 _ _ _ _ _ _ _ 3 3 [16, 1, 16] _ 3 3 [a, b, 0] W rfl (by omega) (by omega) b2.lt (b2.cell 0) rfl (reads_blk b1 b1.lt rfl rfl (by decide)) rfl (by omega) HWF.out (reads_blk b4 b4.lt rfl rfl (by decide))).mono ?_
  rw [HS.out]
  rintro e w1 ⟨a1, c1, rfl, ho, hb⟩
  obtain ⟨g, rfl, hg, hc⟩ := cells1 ho
  have k1 := hc 0 _ rfl
  clear hc
  clear ho b1 b2 b4
  replace b3 := b3.call hb
  have hw1 := fresh_call hW hb
  clear hW hb
  obtain ⟨p0, p1, p2, p3, p4, p5⟩ := b3.three
  have plt := b3.lt
  have B3 := Lib.hid b3
  clear b3
  dsimp only
  go_wp2_with fail
  refine (args_idle _ _ _ _ _ _ _ _ _ _ _ (by omega) (.inr (.inr (by omega)))).mono ?_
  rintro e w2 ⟨a2, c2, rfl, _, hb⟩
  have hw2 := fresh_call (fresh_alloc hw1 _) hb
  dsimp only
  go_wp2_with fail
  go_ret
  exact ⟨rfl, hw2⟩

set_option maxRecDepth 100000 in
set_option maxHeartbeats 1000000 in
theorem m11 (a b : Int) (w : World) (wa : (Lit.int .i64 a).wf = true) (wb : (Lit.int .i64 b).wf = true) (wc : (Lit.int .i64 a).wf = true) (h1 : (a == 0) = false) (h1' : (a != 0) = true) :
    Calls Try.prog 9 #[.int .i64 a, .int .i64 b, .int .i64 a, .int .i64 1] w fun e w' => e = .returned (.bool true) ∧ Below w.heap.size w w' := by
  have es : sh [16, 1, 16] [a, b, a] [(16 : Int), 1, 16].length = [a] := by
    have h := (by simpa using h1 : ¬ a = 0)
    simp [sh, padd, h]
  have HS := Lib.hid es
  have HWF := Lib.hid (show ∀ z ∈ [a, b, a], (Lit.int .i64 z).wf = true by intro z hz; simp at hz; rcases hz with rfl | rfl | rfl <;> assumption)
  clear es wa wb wc
  go_enter Try.func9, Try.ntmps9
  go_wp2_with fail
  refine (alive _).mono ?_
  rintro e w0 ⟨rfl, hb⟩
  have hw := hb
  clear hb
  dsimp only
  go_wp2_with fail
  have hW := fresh_alloc (fresh_alloc (fresh_alloc (fresh_alloc (fresh_alloc (fresh_alloc hw (.cells #[.int .i64 1] 3)) (.cells #[.slice (some ⟨w0.heap.size, 0, none⟩) 1 1] 46)) (.cells #[.int .i64 16, .int .i64 1, .int .i64 16] 3)) (.cells #[.slice (some ⟨w0.heap.size + 1 + 1, 0, none⟩) 3 3, .int .i64 0, .int .i64 3, .slice none 0 0, .slice none 0 0] 50)) (.cells #[.slice none 0 0, .slice (some ⟨w0.heap.size + 1, 0, none⟩) 1 1, .slice (some ⟨w0.heap.size + 1 + 1 + 1, 0, none⟩) 1 1] 53)) (.cells #[.int .i64 a, .int .i64 b, .int .i64 a] 3)
  have b1 := ((((((Blk.new ((w0.alloc (.cells #[.int .i64 1] 3)).alloc (.cells #[.slice (some ⟨w0.heap.size, 0, none⟩) 1 1] 46)) #[.int .i64 16, .int .i64 1, .int .i64 16] 3)).alloc (.cells #[.slice (some ⟨w0.heap.size + 1 + 1, 0, none⟩) 3 3, .int .i64 0, .int .i64 3, .slice none 0 0, .slice none 0 0] 50)).alloc (.cells #[.slice none 0 0, .slice (some ⟨w0.heap.size + 1, 0, none⟩) 1 1, .slice (some ⟨w0.heap.size + 1 + 1 + 1, 0, none⟩) 1 1] 53))).alloc (.cells #[.int .i64 a, .int .i64 b, .int .i64 a] 3))
  have b2 := ((Blk.new (((w0.alloc (.cells #[.int .i64 1] 3)).alloc (.cells #[.slice (some ⟨w0.heap.size, 0, none⟩) 1 1] 46)).alloc (.cells #[.int .i64 16, .int .i64 1, .int .i64 16] 3)) #[.slice (some ⟨w0.heap.size + 1 + 1, 0, none⟩) 3 3, .int .i64 0, .int .i64 3, .slice none 0 0, .slice none 0 0] 50).alloc (.cells #[.slice none 0 0, .slice (some ⟨w0.heap.size + 1, 0, none⟩) 1 1, .slice (some ⟨w0.heap.size + 1 + 1 + 1, 0, none⟩) 1 1] 53)).alloc (.cells #[.int .i64 a, .int .i64 b, .int .i64 a] 3)
  have b3 := (Blk.new ((((w0.alloc (.cells #[.int .i64 1] 3)).alloc (.cells #[.slice (some ⟨w0.heap.size, 0, none⟩) 1 1] 46)).alloc (.cells #[.int .i64 16, .int .i64 1, .int .i64 16] 3)).alloc (.cells #[.slice (some ⟨w0.heap.size + 1 + 1, 0, none⟩) 3 3, .int .i64 0, .int .i64 3, .slice none 0 0, .slice none 0 0] 50)) #[.slice none 0 0, .slice (some ⟨w0.heap.size + 1, 0, none⟩) 1 1, .slice (some ⟨w0.heap.size + 1 + 1 + 1, 0, none⟩) 1 1] 53).alloc (.cells #[.int .i64 a, .int .i64 b, .int .i64 a] 3)
  have b4 := Blk.new (((((w0.alloc (.cells #[.int .i64 1] 3)).alloc (.cells #[.slice (some ⟨w0.heap.size, 0, none⟩) 1 1] 46)).alloc (.cells #[.int .i64 16, .int .i64 1, .int .i64 16] 3)).alloc (.cells #[.slice (some ⟨w0.heap.size + 1 + 1, 0, none⟩) 3 3, .int .i64 0, .int .i64 3, .slice none 0 0, .slice none 0 0] 50)).alloc (.cells #[.slice none 0 0, .slice (some ⟨w0.heap.size + 1, 0, none⟩) 1 1, .slice (some ⟨w0.heap.size + 1 + 1 + 1, 0, none⟩) 1 1] 53)) #[.int .i64 a, .int .i64 b, .int .i64 a] 3
  simp only [World.size_alloc] at b1 b2 b3 b4
  generalize (((((w0.alloc (.cells #[.int .i64 1] 3)).alloc (.cells #[.slice (some ⟨w0.heap.size, 0, none⟩) 1 1] 46)).alloc (.cells #[.int .i64 16, .int .i64 1, .int .i64 16] 3)).alloc (.cells #[.slice (some ⟨w0.heap.size + 1 + 1, 0, none⟩) 3 3, .int .i64 0, .int .i64 3, .slice none 0 0, .slice none 0 0] 50)).alloc (.cells #[.slice none 0 0, .slice (some ⟨w0.heap.size + 1, 0, none⟩) 1 1, .slice (some ⟨w0.heap.size + 1 + 1 + 1, 0, none⟩) 1 1] 53)).alloc (.cells #[.int .i64 a, .int .i64 b, .int .i64 a] 3) = W at *
  clear hw
  refine (args_at 0 0 _ _ _ _ _ _ _ 3 3 [16, 1, 16] _ 3 3 [a, b, a] W rfl (by omega) (by omega) b2.lt (b2.cell 0) rfl (reads_blk b1 b1.lt rfl rfl (by decide)) rfl (by omega) HWF.out (reads_blk b4 b4.lt rfl rfl (by decide))).mono ?_
  rw [HS.out]
  rintro e w1 ⟨a1, c1, rfl, ho, hb⟩
  obtain ⟨g, rfl, hg, hc⟩ := cells1 ho
  have k1 := hc 0 _ rfl
  clear hc
  clear ho b1 b2 b4
  replace b3 := b3.call hb
  have hw1 := fresh_call hW hb
  clear hW hb
  obtain ⟨p0, p1, p2, p3, p4, p5⟩ := b3.three
  have plt := b3.lt
  have B3 := Lib.hid b3
  clear b3
  dsimp only
  go_wp2_with fail
  refine (args_idle _ _ _ _ _ _ _ _ _ _ _ (by omega) (.inr (.inr (by omega)))).mono ?_
  rintro e w2 ⟨a2, c2, rfl, _, hb⟩
  have hw2 := fresh_call (fresh_alloc hw1 _) hb
  dsimp only
  go_wp2_with fail
  go_ret
  exact ⟨rfl, hw2⟩

set_option maxRecDepth 100000 in
set_option maxHeartbeats 1000000 in
theorem m12 (a b c : Int) (w : World) (wa : (Lit.int .i64 a).wf = true) (wb : (Lit.int .i64 b).wf = true) (wc : (Lit.int .i64 c).wf = true) (h1 : (a == 0) = false) (h1' : (a != 0) = true) (h2 : (c == 0) = false) (h2' : (c != 0) = true) (h3 : (c == a) = false) (h3' : (c != a) = true) :
    Calls Try.prog 9 #[.int .i64 a, .int .i64 b, .int .i64 c, .int .i64 1] w fun e w' => e = .returned (.bool true) ∧ Below w.heap.size w w' := by
  have es : sh [16, 1, 16] [a, b, c] [(16 : Int), 1, 16].length = [a, c] := by
    have h := (by simpa using h1 : ¬ a = 0)
    have g := (by simpa using h2 : ¬ c = 0)
    have k := (by simpa using h3 : ¬ c = a)
    simp [sh, padd, h, g, k]
  have HS := Lib.hid es
  have HWF := Lib.hid (show ∀ z ∈ [a, b, c], (Lit.int .i64 z).wf = true by intro z hz; simp at hz; rcases hz with rfl | rfl | rfl <;> assumption)
  clear es wa wb wc
  go_enter Try.func9, Try.ntmps9
  go_wp2_with fail
  refine (alive _).mono ?_
  rintro e w0 ⟨rfl, hb⟩
  have hw := hb
  clear hb
  dsimp only
  go_wp2_with fail
  have hW := fresh_alloc (fresh_alloc (fresh_alloc (fresh_alloc (fresh_alloc (fresh_alloc hw (.cells #[.int .i64 1] 3)) (.cells #[.slice (some ⟨w0.heap.size, 0, none⟩) 1 1] 46)) (.cells #[.int .i64 16, .int .i64 1, .int .i64 16] 3)) (.cells #[.slice (some ⟨w0.heap.size + 1 + 1, 0, none⟩) 3 3, .int .i64 0, .int .i64 3, .slice none 0 0, .slice none 0 0] 50)) (.cells #[.slice none 0 0, .slice (some ⟨w0.heap.size + 1, 0, none⟩) 1 1, .slice (some ⟨w0.heap.size + 1 + 1 + 1, 0, none⟩) 1 1] 53)) (.cells #[.int .i64 a, .int .i64 b, .int .i64 c] 3)
  have b1 := ((((((Blk.new ((w0.alloc (.cells #[.int .i64 1] 3)).alloc (.cells #[.slice (some ⟨w0.heap.size, 0, none⟩) 1 1] 46)) #[.int .i64 16, .int .i64 1, .int .i64 16] 3)).alloc (.cells #[.slice (some ⟨w0.heap.size + 1 + 1, 0, none⟩) 3 3, .int .i64 0, .int .i64 3, .slice none 0 0, .slice none 0 0] 50)).alloc (.cells #[.slice none 0 0, .slice (some ⟨w0.heap.size + 1, 0, none⟩) 1 1, .slice (some ⟨w0.heap.size + 1 + 1 + 1, 0, none⟩) 1 1] 53))).alloc (.cells #[.int .i64 a, .int .i64 b, .int .i64 c] 3))
  have b2 := ((Blk.new (((w0.alloc (.cells #[.int .i64 1] 3)).alloc (.cells #[.slice (some ⟨w0.heap.size, 0, none⟩) 1 1] 46)).alloc (.cells #[.int .i64 16, .int .i64 1, .int .i64 16] 3)) #[.slice (some ⟨w0.heap.size + 1 + 1, 0, none⟩) 3 3, .int .i64 0, .int .i64 3, .slice none 0 0, .slice none 0 0] 50).alloc (.cells #[.slice none 0 0, .slice (some ⟨w0.heap.size + 1, 0, none⟩) 1 1, .slice (some ⟨w0.heap.size + 1 + 1 + 1, 0, none⟩) 1 1] 53)).alloc (.cells #[.int .i64 a, .int .i64 b, .int .i64 c] 3)
  have b3 := (Blk.new ((((w0.alloc (.cells #[.int .i64 1] 3)).alloc (.cells #[.slice (some ⟨w0.heap.size, 0, none⟩) 1 1] 46)).alloc (.cells #[.int .i64 16, .int .i64 1, .int .i64 16] 3)).alloc (.cells #[.slice (some ⟨w0.heap.size + 1 + 1, 0, none⟩) 3 3, .int .i64 0, .int .i64 3, .slice none 0 0, .slice none 0 0] 50)) #[.slice none 0 0, .slice (some ⟨w0.heap.size + 1, 0, none⟩) 1 1, .slice (some ⟨w0.heap.size + 1 + 1 + 1, 0, none⟩) 1 1] 53).alloc (.cells #[.int .i64 a, .int .i64 b, .int .i64 c] 3)
  have b4 := Blk.new (((((w0.alloc (.cells #[.int .i64 1] 3)).alloc (.cells #[.slice (some ⟨w0.heap.size, 0, none⟩) 1 1] 46)).alloc (.cells #[.int .i64 16, .int .i64 1, .int .i64 16] 3)).alloc (.cells #[.slice (some ⟨w0.heap.size + 1 + 1, 0, none⟩) 3 3, .int .i64 0, .int .i64 3, .slice none 0 0, .slice none 0 0] 50)).alloc (.cells #[.slice none 0 0, .slice (some ⟨w0.heap.size + 1, 0, none⟩) 1 1, .slice (some ⟨w0.heap.size + 1 + 1 + 1, 0, none⟩) 1 1] 53)) #[.int .i64 a, .int .i64 b, .int .i64 c] 3
  simp only [World.size_alloc] at b1 b2 b3 b4
  generalize (((((w0.alloc (.cells #[.int .i64 1] 3)).alloc (.cells #[.slice (some ⟨w0.heap.size, 0, none⟩) 1 1] 46)).alloc (.cells #[.int .i64 16, .int .i64 1, .int .i64 16] 3)).alloc (.cells #[.slice (some ⟨w0.heap.size + 1 + 1, 0, none⟩) 3 3, .int .i64 0, .int .i64 3, .slice none 0 0, .slice none 0 0] 50)).alloc (.cells #[.slice none 0 0, .slice (some ⟨w0.heap.size + 1, 0, none⟩) 1 1, .slice (some ⟨w0.heap.size + 1 + 1 + 1, 0, none⟩) 1 1] 53)).alloc (.cells #[.int .i64 a, .int .i64 b, .int .i64 c] 3) = W at *
  clear hw
  refine (args_at 0 0 _ _ _ _ _ _ _ 3 3 [16, 1, 16] _ 3 3 [a, b, c] W rfl (by omega) (by omega) b2.lt (b2.cell 0) rfl (reads_blk b1 b1.lt rfl rfl (by decide)) rfl (by omega) HWF.out (reads_blk b4 b4.lt rfl rfl (by decide))).mono ?_
  rw [HS.out]
  rintro e w1 ⟨a1, c1, rfl, ho, hb⟩
  obtain ⟨g, rfl, hg, hc⟩ := cells1 ho
  have k1 := hc 0 _ rfl
  have k2 := hc 1 _ rfl
  clear hc
  clear ho b1 b2 b4
  replace b3 := b3.call hb
  have hw1 := fresh_call hW hb
  clear hW hb
  obtain ⟨p0, p1, p2, p3, p4, p5⟩ := b3.three
  have plt := b3.lt
  have B3 := Lib.hid b3
  clear b3
  dsimp only
  go_wp2_with fail
  refine (args_idle _ _ _ _ _ _ _ _ _ _ _ (by omega) (.inr (.inr (by omega)))).mono ?_
  rintro e w2 ⟨a2, c2, rfl, _, hb⟩
  have hw2 := fresh_call (fresh_alloc hw1 _) hb
  dsimp only
  go_wp2_with fail
  go_ret
  exact ⟨rfl, hw2⟩

theorem walk (a b c p : Int) (w : World) (wa : (Lit.int .i64 a).wf = true) (wb : (Lit.int .i64 b).wf = true) (wc : (Lit.int .i64 c).wf = true) (_wp : (Lit.int .i64 p).wf = true) :
    Calls Try.prog 9 #[.int .i64 a, .int .i64 b, .int .i64 c, .int .i64 p] w fun e w' => e = .returned (.bool true) ∧ Below w.heap.size w w' := by
  by_cases hp : p = 1
  · subst hp
    by_cases h1 : a = 0
    · subst h1
      by_cases h2 : c = 0
      · subst h2; exact m00 b 0 w wa wb wc
      · exact m01 b c w wa wb wc (by simpa using h2) (by simpa using h2)
    · by_cases h2 : c = 0
      · subst h2; exact m10 a b w wa wb wc (by simpa using h1) (by simpa using h1)
      · by_cases h3 : c = a
        · subst h3; exact m11 c b w wa wb wc (by simpa using h1) (by simpa using h1)
        · exact m12 a b c w wa wb wc (by simpa using h1) (by simpa using h1) (by simpa using h2) (by simpa using h2) (by simpa using h3) (by simpa using h3)
  · exact idle a b c p w (by simpa using hp) (by simpa using hp)
end Go.Proofs.Ytnolkgciapggdaa.BarrierArgs
