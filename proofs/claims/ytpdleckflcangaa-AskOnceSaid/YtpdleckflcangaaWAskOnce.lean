/- The walk of besomlaw19.AskOnce: it returns true, and writes nothing that was there. (Printed by a program of mine.) -/
import Derived.Test.YtpdleckflcangaaAsk4
namespace Go.Proofs.Ytpdleckflcangaa.AskOnce
open Go.RowKit Go.Proofs.Ytpdleckflcangaa.Ask
set_option linter.unusedSimpArgs false
set_option linter.unusedVariables false

/-- A slice of one hand. -/
theorem one_reads {w : World} {b : Nat} {x : Int} {y : Bool} (h : Blk w b #[.int .i64 x, .bool y] 32) : Reads w w.heap.size 2 (some ⟨b, 0, none⟩) 1 1 (hc [(x, y)]) := by
  refine ⟨Nat.le_refl _, by decide, rfl, fun _ => ⟨b, 0, rfl, h.lt, fun j u hu => ?_⟩⟩
  rw [Nat.zero_add, h.cell j, ← hu]
  simp [hc, pairCells]

theorem field0 (w : World) (x : Int) (y : Bool) : (Instr.field 32 (.agg #[.int .i64 x, .bool y]) 0).run Try.prog w = .ok (.int .i64 x) w := by kernel_rfl
set_option maxRecDepth 100000 in
theorem early (p : Int) (jo : Bool) (w : World) (h : p < 0 ∨ 50 < p) :
    Calls Try.prog 8 #[.int .i64 p, .bool jo] w fun e w' => e = .returned (.bool true) ∧ Below w.heap.size w w' := by
  by_cases h0 : p < 0
  · clear h
    go_enter Try.func8, Try.ntmps8
    go_wp2_with fail
    refine (alive _).mono ?_
    rintro e w1 ⟨rfl, hb1⟩
    dsimp only
    go_wp2_with fail
    go_ret
    exact ⟨rfl, hb1⟩
  by_cases h1 : 50 < p
  · clear h
    go_enter Try.func8, Try.ntmps8
    go_wp2_with fail
    refine (alive _).mono ?_
    rintro e w1 ⟨rfl, hb1⟩
    dsimp only
    go_wp2_with fail
    go_ret
    exact ⟨rfl, hb1⟩
  omega

set_option maxRecDepth 100000 in
set_option maxHeartbeats 4000000 in
theorem core (p : Nat) (jo : Bool) (w : World) (hp : p ≤ 50) :
    Calls Try.prog 8 #[.int .i64 p, .bool jo] w fun e w' => e = .returned (.bool true) ∧ Below w.heap.size w w' := by
  go_enter Try.func8, Try.ntmps8
  go_wp2_with fail
  refine (alive _).mono ?_
  rintro e w0 ⟨rfl, hb0⟩
  dsimp only
  go_wp2_with fail
  have HB := Lib.hid ((Blk.new w0 #[.int .i64 0, .bool false] 32).alloc (.cells #[.int .i64 0, .bool false] 32))
  have HW := Lib.hid (fresh_alloc (fresh_alloc hb0 (.cells #[.int .i64 0, .bool false] 32)) (.cells #[.int .i64 0, .bool false] 32))
  have HN := Lib.hid (Blk.new (w0.alloc (.cells #[.int .i64 0, .bool false] 32)) #[.int .i64 0, .bool false] 32)
  have hbn : w.heap.size ≤ w0.heap.size := hb0.size
  rw [World.size_alloc] at HN
  clear hb0
  generalize (w0.alloc (.cells #[.int .i64 0, .bool false] 32)).alloc (.cells #[.int .i64 0, .bool false] 32) = w1 at *
  generalize w0.heap.size = b at *
  obtain ⟨l1, l2, l3, l4⟩ := HB.out.two
  have blt := HB.out.lt
  refine (next_any _ _ _ _ _ _ (one_reads HN.out) (Nat.le_refl _) rfl).mono ?_
  rw [show nextI [((0 : Int), false)] = some 0 from rfl]
  rintro e w11 ⟨rfl, hb⟩
  clear l1 l2 l3 l4 blt
  have HB2 := Lib.hid (HB.out.call hb)
  have HW2 := Lib.hid (fresh_call HW.out hb)
  clear HB HW hb
  have HB := Lib.hid HB2.out
  have HW := Lib.hid HW2.out
  clear HB2 HW2
  obtain ⟨l1, l2, l3, l4⟩ := HB.out.two
  have blt := HB.out.lt
  simp only [Option.getD, Option.isSome]
  go_wp2_with fail
  refine (ask_any 0 false _ (by decide)).mono ?_
  rw [show nx 0 0 = 1 from rfl]
  rintro e w12 ⟨rfl, hb⟩
  clear l1 l2 l3 l4 blt
  have HB1 := HB.out.call hb
  obtain ⟨k1, k2, k3, k4⟩ := HB1.two
  have HB2 := Lib.hid (hset (x' := .int .i64 1) (y' := .bool false) HB1)
  have HW2 := Lib.hid (bset (bset (fresh_call HW.out hb) hbn (.int .i64 1) (o := 0)) hbn (.bool false) (o := 1))
  clear HB HW hb HB1
  have HB := Lib.hid HB2.out
  have HW := Lib.hid HW2.out
  clear HB2 HW2
  obtain ⟨l1, l2, l3, l4⟩ := HB.out.two
  have blt := HB.out.lt
  dsimp only
  go_wp2_with fail
  have hz : ((w12.setCell ⟨b, 0, none⟩ (.int .i64 1)).setCell ⟨b, 1, none⟩ (.bool false)).heap.size = w12.heap.size := by simp only [World.size_setCell]
  generalize (w12.setCell ⟨b, 0, none⟩ (.int .i64 1)).setCell ⟨b, 1, none⟩ (.bool false) = w12s at *
  clear k1 k2 k3 k4
  clear HN
  clear l1 l2 l3 l4 blt
  have H0 := Lib.hid (And.intro HB.out HW.out)
  clear HB HW
  go_loopw [8] (fun i wr => ∃ k : Nat, k ≤ p ∧ i = .int .i64 k ∧ Blk wr b #[.int .i64 1, .bool false] 32 ∧ Below w.heap.size w wr) (fun i _ => p - (intOf i).toNat)
  case atStart => exact ⟨0, Nat.zero_le _, rfl, H0.out.1, H0.out.2⟩
  case round =>
    clear H0
    obtain ⟨k, hk, rfl, hb, hw⟩ := hrel
    have HB := Lib.hid hb
    have HW := Lib.hid hw
    obtain ⟨l1, l2, l3, l4⟩ := hb.two
    have blt := hb.lt
    clear hb hw
    by_cases hlt : (k : Int) < (p : Int)
    · go_wp2_with fail
      refine (reach_no 1 false _).mono ?_
      rintro e w31 ⟨rfl, hb⟩
      clear l1 l2 l3 l4 blt
      have HB2 := Lib.hid ((HB.out.call hb).alloc (.cells #[.int .i64 1, .bool false] 32))
      have HW2 := Lib.hid (fresh_alloc (fresh_call HW.out hb) (.cells #[.int .i64 1, .bool false] 32))
      obtain ⟨k1, k2, k3, k4⟩ := (HB.out.call hb).two
      have klt := (HB.out.call hb).lt
      obtain ⟨t1, t2, t3, t4⟩ := (Blk.new w31 #[.int .i64 1, .bool false] 32).two
      clear HB HW hb
      have HB := Lib.hid HB2.out
      have HW := Lib.hid HW2.out
      clear HB2 HW2
      obtain ⟨l1, l2, l3, l4⟩ := HB.out.two
      have blt := HB.out.lt
      dsimp only
      go_wp2_with fail
      generalize w31.alloc (.cells #[.int .i64 1, .bool false] 32) = w31s at *
      clear k1 k2 k3 k4 klt t1 t2 t3 t4
      refine (may_any 1 false _).mono ?_
      rw [show mayF 1 = true from rfl]
      rintro e w32 ⟨rfl, hb⟩
      clear l1 l2 l3 l4 blt
      have HB2 := Lib.hid (HB.out.call hb)
      have HW2 := Lib.hid (fresh_call HW.out hb)
      clear HB HW hb
      have HB := Lib.hid HB2.out
      have HW := Lib.hid HW2.out
      clear HB2 HW2
      obtain ⟨l1, l2, l3, l4⟩ := HB.out.two
      have blt := HB.out.lt
      dsimp only
      go_wp2_with fail
      exact ⟨⟨k + 1, by omega, by go_num, HB.out, HW.out⟩, by simp [intOf]; omega⟩
    · obtain rfl : k = p := by omega
      cases jo
      · go_wp2_with fail
        refine (reach_yes 1 false _ (by decide)).mono ?_
        rw [show nx 1 1 = 2 from rfl, show stepF 1 1 = some 2 from rfl]
        rintro e w61 ⟨rfl, hb⟩
        clear l1 l2 l3 l4 blt
        have HB2 := Lib.hid ((hset (x' := .int .i64 2) (y' := .bool false) (HB.out.call hb)).alloc (.cells #[.int .i64 2, .bool false] 32))
        have HW2 := Lib.hid (fresh_alloc (bset (bset (fresh_call HW.out hb) hbn (.int .i64 2) (o := 0)) hbn (.bool false) (o := 1)) (.cells #[.int .i64 2, .bool false] 32))
        obtain ⟨k1, k2, k3, k4⟩ := (HB.out.call hb).two
        have klt := (HB.out.call hb).lt
        clear HB HW hb
        have HB := Lib.hid HB2.out
        have HW := Lib.hid HW2.out
        clear HB2 HW2
        obtain ⟨l1, l2, l3, l4⟩ := HB.out.two
        have blt := HB.out.lt
        simp only [Option.isSome]
        go_wp2_with fail
        generalize ((w61.setCell ⟨b, 0, none⟩ (.int .i64 2)).setCell ⟨b, 1, none⟩ (.bool false)).alloc (.cells #[.int .i64 2, .bool false] 32) = w61s at *
        clear k1 k2 k3 k4 klt
        refine (may_any 2 false _).mono ?_
        rw [show mayF 2 = false from rfl]
        rintro e w62 ⟨rfl, hb⟩
        clear l1 l2 l3 l4 blt
        have HB2 := Lib.hid (HB.out.call hb)
        have HW2 := Lib.hid (fresh_call HW.out hb)
        clear HB HW hb
        have HB := Lib.hid HB2.out
        have HW := Lib.hid HW2.out
        clear HB2 HW2
        obtain ⟨l1, l2, l3, l4⟩ := HB.out.two
        have blt := HB.out.lt
        dsimp only
        go_wp2_with fail
        refine (scan_any 2 false _ (by decide)).mono ?_
        rw [show nx 2 3 = 0 from rfl, show stepF 2 3 = some 0 from rfl, show ((2 : Int) == 3) = false from rfl]
        rintro e w63 ⟨rfl, hb⟩
        clear l1 l2 l3 l4 blt
        have HB1 := HB.out.call hb
        obtain ⟨k1, k2, k3, k4⟩ := HB1.two
        have HB2 := Lib.hid (hset (x' := .int .i64 0) (y' := .bool true) HB1)
        have HW2 := Lib.hid (bset (bset (fresh_call HW.out hb) hbn (.int .i64 0) (o := 0)) hbn (.bool true) (o := 1))
        clear HB HW hb HB1
        have HB := Lib.hid HB2.out
        have HW := Lib.hid HW2.out
        clear HB2 HW2
        obtain ⟨l1, l2, l3, l4⟩ := HB.out.two
        have blt := HB.out.lt
        simp only [Option.isSome, Bool.false_or]
        go_wp2_with fail
        have hz : ((w63.setCell ⟨b, 0, none⟩ (.int .i64 0)).setCell ⟨b, 1, none⟩ (.bool true)).heap.size = w63.heap.size := by simp only [World.size_setCell]
        generalize (w63.setCell ⟨b, 0, none⟩ (.int .i64 0)).setCell ⟨b, 1, none⟩ (.bool true) = w63s at *
        clear k1 k2 k3 k4
        have HB2 := Lib.hid (HB.out.alloc (.cells #[.int .i64 0, .bool true] 32))
        have HW2 := Lib.hid (fresh_alloc HW.out (.cells #[.int .i64 0, .bool true] 32))
        have HN := Lib.hid (Blk.new w63s #[.int .i64 0, .bool true] 32)
        rw [hz] at HN
        clear HB HW
        have HB := Lib.hid HB2.out
        have HW := Lib.hid HW2.out
        clear HB2 HW2
        clear l1 l2 l3 l4 blt
        obtain ⟨l1, l2, l3, l4⟩ := HB.out.two
        have blt := HB.out.lt
        generalize w63s.alloc (.cells #[.int .i64 0, .bool true] 32) = w63sx at *
        refine (next_any _ _ _ _ _ _ (one_reads HN.out) (Nat.le_refl _) rfl).mono ?_
        rw [show nextI [((0 : Int), true)] = none from rfl]
        rintro e w64 ⟨rfl, hb⟩
        clear l1 l2 l3 l4 blt
        have HB2 := Lib.hid (HB.out.call hb)
        have HW2 := Lib.hid (fresh_call HW.out hb)
        clear HB HW hb
        have HB := Lib.hid HB2.out
        have HW := Lib.hid HW2.out
        clear HB2 HW2
        obtain ⟨l1, l2, l3, l4⟩ := HB.out.two
        have blt := HB.out.lt
        simp only [Option.getD, Option.isSome]
        go_wp2_with fail
        refine (begin_any 0 true _).mono ?_
        rw [show bgS 0 = 0 from rfl, show bgB 0 true = false from rfl]
        rintro e w65 ⟨rfl, hb⟩
        clear l1 l2 l3 l4 blt
        have HB2 := Lib.hid (HB.out.call hb)
        have HW2 := Lib.hid (fresh_call HW.out hb)
        clear HB HW hb
        have HB := Lib.hid HB2.out
        have HW := Lib.hid HW2.out
        clear HB2 HW2
        obtain ⟨l1, l2, l3, l4⟩ := HB.out.two
        have blt := HB.out.lt
        dsimp only
        go_wp2_with fail
        have HB2 := Lib.hid (HB.out.alloc (.cells #[.int .i64 0, .bool false] 32))
        have HW2 := Lib.hid (fresh_alloc HW.out (.cells #[.int .i64 0, .bool false] 32))
        have HN := Lib.hid (Blk.new w65 #[.int .i64 0, .bool false] 32)
        clear HB HW
        have HB := Lib.hid HB2.out
        have HW := Lib.hid HW2.out
        clear HB2 HW2
        clear l1 l2 l3 l4 blt
        obtain ⟨l1, l2, l3, l4⟩ := HB.out.two
        have blt := HB.out.lt
        generalize w65.alloc (.cells #[.int .i64 0, .bool false] 32) = w65x at *
        refine (next_any _ _ _ _ _ _ (one_reads HN.out) (Nat.le_refl _) rfl).mono ?_
        rw [show nextI [((0 : Int), false)] = some 0 from rfl]
        rintro e w66 ⟨rfl, hb⟩
        clear l1 l2 l3 l4 blt
        have HB2 := Lib.hid (HB.out.call hb)
        have HW2 := Lib.hid (fresh_call HW.out hb)
        clear HB HW hb
        have HB := Lib.hid HB2.out
        have HW := Lib.hid HW2.out
        clear HB2 HW2
        obtain ⟨l1, l2, l3, l4⟩ := HB.out.two
        have blt := HB.out.lt
        simp only [Option.getD, Option.isSome]
        go_wp2_with fail
        refine (begin_any 0 true _).mono ?_
        rw [show bgS 0 = 0 from rfl, show bgB 0 true = false from rfl]
        rintro e w67 ⟨rfl, hb⟩
        clear l1 l2 l3 l4 blt
        have HB2 := Lib.hid (HB.out.call hb)
        have HW2 := Lib.hid (fresh_call HW.out hb)
        clear HB HW hb
        have HB := Lib.hid HB2.out
        have HW := Lib.hid HW2.out
        clear HB2 HW2
        obtain ⟨l1, l2, l3, l4⟩ := HB.out.two
        have blt := HB.out.lt
        dsimp only
        go_wp2_with fail
        refine (end_any 0 false _).mono ?_
        rintro e w68 ⟨rfl, hb⟩
        clear l1 l2 l3 l4 blt
        have HB2 := Lib.hid (HB.out.call hb)
        have HW2 := Lib.hid (fresh_call HW.out hb)
        clear HB HW hb
        have HB := Lib.hid HB2.out
        have HW := Lib.hid HW2.out
        clear HB2 HW2
        obtain ⟨l1, l2, l3, l4⟩ := HB.out.two
        have blt := HB.out.lt
        dsimp only
        go_wp2_with fail
        have HB2 := Lib.hid (HB.out.alloc (.cells #[.int .i64 4, .bool false] 32))
        have HW2 := Lib.hid (fresh_alloc HW.out (.cells #[.int .i64 4, .bool false] 32))
        have HN := Lib.hid (Blk.new w68 #[.int .i64 4, .bool false] 32)
        clear HB HW
        have HB := Lib.hid HB2.out
        have HW := Lib.hid HW2.out
        clear HB2 HW2
        clear l1 l2 l3 l4 blt
        obtain ⟨l1, l2, l3, l4⟩ := HB.out.two
        have blt := HB.out.lt
        generalize w68.alloc (.cells #[.int .i64 4, .bool false] 32) = w68x at *
        have hfd := field0
        refine (next_any _ _ _ _ _ _ (one_reads HN.out) (Nat.le_refl _) rfl).mono ?_
        rw [show nextI [((4 : Int), false)] = none from rfl]
        rintro e w69 ⟨rfl, hb⟩
        clear l1 l2 l3 l4 blt
        have HB2 := Lib.hid (HB.out.call hb)
        have HW2 := Lib.hid (fresh_call HW.out hb)
        clear HB HW hb
        have HB := Lib.hid HB2.out
        have HW := Lib.hid HW2.out
        clear HB2 HW2
        obtain ⟨l1, l2, l3, l4⟩ := HB.out.two
        have blt := HB.out.lt
        simp only [Option.getD, Option.isSome]
        go_wp2_with fail
        have H1 := Lib.hid (fun x : Ext w69 => x.call (may_any 0 true x.w))
        have H2 := Lib.hid (fun x : Ext w69 => x.call (jolt_any 0 true x.w (by decide)))
        have H3 := Lib.hid (fun x : Ext w69 => x.call (end_any 0 true x.w))
        rw [show mayF 0 = true from rfl] at H1
        rw [show nx 0 2 = 0 from rfl] at H2
        refine Ext.region w69 (by kernel_rfl) (by kernel_rfl) (Below.refl _ _) ?_
        repeat (go_big_quiet_step (first | (go_at_call 24; exact H1.out _) | (go_at_call 19; exact H2.out _) | (go_at_call 22; exact H3.out _)))
        refine wpQuiet_nil ?_
        rintro _ ⟨xq, rfl⟩
        have hxq := HW.out.trans (xq.below.mono HW.out.size)
        go_wp2_with fail
        go_ret
        exact ⟨rfl, hxq⟩
      · go_wp2_with fail
        refine (jolt_any 1 false _ (by decide)).mono ?_
        rw [show nx 1 2 = 3 from rfl]
        rintro e w41 ⟨rfl, hb⟩
        clear l1 l2 l3 l4 blt
        have HB1 := HB.out.call hb
        obtain ⟨k1, k2, k3, k4⟩ := HB1.two
        have HB2 := Lib.hid (hset (x' := .int .i64 3) (y' := .bool false) HB1)
        have HW2 := Lib.hid (bset (bset (fresh_call HW.out hb) hbn (.int .i64 3) (o := 0)) hbn (.bool false) (o := 1))
        clear HB HW hb HB1
        have HB := Lib.hid HB2.out
        have HW := Lib.hid HW2.out
        clear HB2 HW2
        obtain ⟨l1, l2, l3, l4⟩ := HB.out.two
        have blt := HB.out.lt
        dsimp only
        go_wp2_with fail
        have hz : ((w41.setCell ⟨b, 0, none⟩ (.int .i64 3)).setCell ⟨b, 1, none⟩ (.bool false)).heap.size = w41.heap.size := by simp only [World.size_setCell]
        generalize (w41.setCell ⟨b, 0, none⟩ (.int .i64 3)).setCell ⟨b, 1, none⟩ (.bool false) = w41s at *
        clear k1 k2 k3 k4
        refine (may_any 3 false _).mono ?_
        rw [show mayF 3 = false from rfl]
        rintro e w42 ⟨rfl, hb⟩
        clear l1 l2 l3 l4 blt
        have HB2 := Lib.hid (HB.out.call hb)
        have HW2 := Lib.hid (fresh_call HW.out hb)
        clear HB HW hb
        have HB := Lib.hid HB2.out
        have HW := Lib.hid HW2.out
        clear HB2 HW2
        obtain ⟨l1, l2, l3, l4⟩ := HB.out.two
        have blt := HB.out.lt
        dsimp only
        go_wp2_with fail
        refine (scan_any 3 false _ (by decide)).mono ?_
        rw [show nx 3 3 = 0 from rfl, show stepF 3 3 = some 0 from rfl, show ((3 : Int) == 3) = true from rfl]
        rintro e w43 ⟨rfl, hb⟩
        clear l1 l2 l3 l4 blt
        have HB1 := HB.out.call hb
        obtain ⟨k1, k2, k3, k4⟩ := HB1.two
        have HB2 := Lib.hid (hset (x' := .int .i64 0) (y' := .bool true) HB1)
        have HW2 := Lib.hid (bset (bset (fresh_call HW.out hb) hbn (.int .i64 0) (o := 0)) hbn (.bool true) (o := 1))
        clear HB HW hb HB1
        have HB := Lib.hid HB2.out
        have HW := Lib.hid HW2.out
        clear HB2 HW2
        obtain ⟨l1, l2, l3, l4⟩ := HB.out.two
        have blt := HB.out.lt
        simp only [Option.isSome, Bool.false_or]
        go_wp2_with fail
        have hz : ((w43.setCell ⟨b, 0, none⟩ (.int .i64 0)).setCell ⟨b, 1, none⟩ (.bool true)).heap.size = w43.heap.size := by simp only [World.size_setCell]
        generalize (w43.setCell ⟨b, 0, none⟩ (.int .i64 0)).setCell ⟨b, 1, none⟩ (.bool true) = w43s at *
        clear k1 k2 k3 k4
        have HB2 := Lib.hid (HB.out.alloc (.cells #[.int .i64 0, .bool true] 32))
        have HW2 := Lib.hid (fresh_alloc HW.out (.cells #[.int .i64 0, .bool true] 32))
        have HN := Lib.hid (Blk.new w43s #[.int .i64 0, .bool true] 32)
        rw [hz] at HN
        clear HB HW
        have HB := Lib.hid HB2.out
        have HW := Lib.hid HW2.out
        clear HB2 HW2
        clear l1 l2 l3 l4 blt
        obtain ⟨l1, l2, l3, l4⟩ := HB.out.two
        have blt := HB.out.lt
        generalize w43s.alloc (.cells #[.int .i64 0, .bool true] 32) = w43sx at *
        refine (next_any _ _ _ _ _ _ (one_reads HN.out) (Nat.le_refl _) rfl).mono ?_
        rw [show nextI [((0 : Int), true)] = none from rfl]
        rintro e w44 ⟨rfl, hb⟩
        clear l1 l2 l3 l4 blt
        have HB2 := Lib.hid (HB.out.call hb)
        have HW2 := Lib.hid (fresh_call HW.out hb)
        clear HB HW hb
        have HB := Lib.hid HB2.out
        have HW := Lib.hid HW2.out
        clear HB2 HW2
        obtain ⟨l1, l2, l3, l4⟩ := HB.out.two
        have blt := HB.out.lt
        simp only [Option.getD, Option.isSome]
        go_wp2_with fail
        refine (begin_any 0 true _).mono ?_
        rw [show bgS 0 = 0 from rfl, show bgB 0 true = false from rfl]
        rintro e w45 ⟨rfl, hb⟩
        clear l1 l2 l3 l4 blt
        have HB2 := Lib.hid (HB.out.call hb)
        have HW2 := Lib.hid (fresh_call HW.out hb)
        clear HB HW hb
        have HB := Lib.hid HB2.out
        have HW := Lib.hid HW2.out
        clear HB2 HW2
        obtain ⟨l1, l2, l3, l4⟩ := HB.out.two
        have blt := HB.out.lt
        dsimp only
        go_wp2_with fail
        have HB2 := Lib.hid (HB.out.alloc (.cells #[.int .i64 0, .bool false] 32))
        have HW2 := Lib.hid (fresh_alloc HW.out (.cells #[.int .i64 0, .bool false] 32))
        have HN := Lib.hid (Blk.new w45 #[.int .i64 0, .bool false] 32)
        clear HB HW
        have HB := Lib.hid HB2.out
        have HW := Lib.hid HW2.out
        clear HB2 HW2
        clear l1 l2 l3 l4 blt
        obtain ⟨l1, l2, l3, l4⟩ := HB.out.two
        have blt := HB.out.lt
        generalize w45.alloc (.cells #[.int .i64 0, .bool false] 32) = w45x at *
        refine (next_any _ _ _ _ _ _ (one_reads HN.out) (Nat.le_refl _) rfl).mono ?_
        rw [show nextI [((0 : Int), false)] = some 0 from rfl]
        rintro e w46 ⟨rfl, hb⟩
        clear l1 l2 l3 l4 blt
        have HB2 := Lib.hid (HB.out.call hb)
        have HW2 := Lib.hid (fresh_call HW.out hb)
        clear HB HW hb
        have HB := Lib.hid HB2.out
        have HW := Lib.hid HW2.out
        clear HB2 HW2
        obtain ⟨l1, l2, l3, l4⟩ := HB.out.two
        have blt := HB.out.lt
        simp only [Option.getD, Option.isSome]
        go_wp2_with fail
        refine (begin_any 0 true _).mono ?_
        rw [show bgS 0 = 0 from rfl, show bgB 0 true = false from rfl]
        rintro e w47 ⟨rfl, hb⟩
        clear l1 l2 l3 l4 blt
        have HB2 := Lib.hid (HB.out.call hb)
        have HW2 := Lib.hid (fresh_call HW.out hb)
        clear HB HW hb
        have HB := Lib.hid HB2.out
        have HW := Lib.hid HW2.out
        clear HB2 HW2
        obtain ⟨l1, l2, l3, l4⟩ := HB.out.two
        have blt := HB.out.lt
        dsimp only
        go_wp2_with fail
        refine (end_any 0 false _).mono ?_
        rintro e w48 ⟨rfl, hb⟩
        clear l1 l2 l3 l4 blt
        have HB2 := Lib.hid (HB.out.call hb)
        have HW2 := Lib.hid (fresh_call HW.out hb)
        clear HB HW hb
        have HB := Lib.hid HB2.out
        have HW := Lib.hid HW2.out
        clear HB2 HW2
        obtain ⟨l1, l2, l3, l4⟩ := HB.out.two
        have blt := HB.out.lt
        dsimp only
        go_wp2_with fail
        have HB2 := Lib.hid (HB.out.alloc (.cells #[.int .i64 4, .bool false] 32))
        have HW2 := Lib.hid (fresh_alloc HW.out (.cells #[.int .i64 4, .bool false] 32))
        have HN := Lib.hid (Blk.new w48 #[.int .i64 4, .bool false] 32)
        clear HB HW
        have HB := Lib.hid HB2.out
        have HW := Lib.hid HW2.out
        clear HB2 HW2
        clear l1 l2 l3 l4 blt
        obtain ⟨l1, l2, l3, l4⟩ := HB.out.two
        have blt := HB.out.lt
        generalize w48.alloc (.cells #[.int .i64 4, .bool false] 32) = w48x at *
        have hfd := field0
        refine (next_any _ _ _ _ _ _ (one_reads HN.out) (Nat.le_refl _) rfl).mono ?_
        rw [show nextI [((4 : Int), false)] = none from rfl]
        rintro e w49 ⟨rfl, hb⟩
        clear l1 l2 l3 l4 blt
        have HB2 := Lib.hid (HB.out.call hb)
        have HW2 := Lib.hid (fresh_call HW.out hb)
        clear HB HW hb
        have HB := Lib.hid HB2.out
        have HW := Lib.hid HW2.out
        clear HB2 HW2
        obtain ⟨l1, l2, l3, l4⟩ := HB.out.two
        have blt := HB.out.lt
        simp only [Option.getD, Option.isSome]
        go_wp2_with fail
        have H1 := Lib.hid (fun x : Ext w49 => x.call (may_any 0 true x.w))
        have H2 := Lib.hid (fun x : Ext w49 => x.call (jolt_any 0 true x.w (by decide)))
        have H3 := Lib.hid (fun x : Ext w49 => x.call (end_any 0 true x.w))
        rw [show mayF 0 = true from rfl] at H1
        rw [show nx 0 2 = 0 from rfl] at H2
        refine Ext.region w49 (by kernel_rfl) (by kernel_rfl) (Below.refl _ _) ?_
        repeat (go_big_quiet_step (first | (go_at_call 24; exact H1.out _) | (go_at_call 19; exact H2.out _) | (go_at_call 22; exact H3.out _)))
        refine wpQuiet_nil ?_
        rintro _ ⟨xq, rfl⟩
        have hxq := HW.out.trans (xq.below.mono HW.out.size)
        go_wp2_with fail
        go_ret
        exact ⟨rfl, hxq⟩

theorem walk (p : Int) (jo : Bool) (w : World) (_wp : (Lit.int .i64 p).wf = true) :
    Calls Try.prog 8 #[.int .i64 p, .bool jo] w fun e w' => e = .returned (.bool true) ∧ Below w.heap.size w w' := by
  by_cases h : p < 0 ∨ 50 < p
  · exact early p jo w h
  · obtain ⟨d, rfl⟩ := Int.eq_ofNat_of_zero_le (a := p) (by omega)
    exact core d jo w (by omega)
end Go.Proofs.Ytpdleckflcangaa.AskOnce
