/- Package besomlaw7: its first call answers true. -/
import Derived.Test.YtfgpadkoonogpaaDoorHpy
namespace Go.Proofs.YtfgpadkoonogpaaDoor.Hp
open Go.RowKit Pg Ar Tm
set_option linter.unusedSimpArgs false
set_option linter.unusedVariables false

/-- One shape written out. -/
theorem rs_lit (w : World) (l : List Int) (cs : Array Value) (hcs : cs.toList = l.map (.int .i64)) (hl : l.length ≤ 1000) (hw : ∀ x ∈ l, (Lit.int .i64 x).wf = true) :
    Shp.RS ((w.alloc (.cells cs 3)).alloc (.cells #[.slice (some ⟨w.heap.size, 0, none⟩) l.length l.length] 64)) ((w.alloc (.cells cs 3)).alloc (.cells #[.slice (some ⟨w.heap.size, 0, none⟩) l.length l.length] 64)).heap.size (some ⟨w.heap.size + 1, 0, none⟩) 1 1 [l] := by
  have h1 := (Blk.new w cs 3).alloc (.cells #[.slice (some ⟨w.heap.size, 0, none⟩) l.length l.length] 64)
  have h2 := Blk.new (w.alloc (.cells cs 3)) #[.slice (some ⟨w.heap.size, 0, none⟩) l.length l.length] 64
  rw [World.size_alloc] at h2
  refine ⟨rfl, Nat.le_refl _, by unfold maxLen; omega, fun i l' hi => ?_⟩
  match i, hi with
  | 0, hi =>
    have hi : some l = some l' := hi
    have hi := Option.some.inj hi
    subst hi
    exact ⟨_, _, _, _, rfl, by simp, h2.cell 0, ⟨rfl, Blk.reads h1 (by simp; omega) hcs (by simp) (by unfold maxLen; omega)⟩, hw⟩
theorem chk_1 : Shp.chk [[1, 16]] = 0 := by decide
theorem start_at {w w' : World} {e : Ending} {pages : Int} {ls : List (List Int)} (hT : Tab w) (h : NewIs pages ls w e w') : ∃ B : HB, e = .returned (.tuple #[.pointer (some ⟨B.b, 0, none⟩), .int .i64 0]) ∧ HW w w' B ls (start (min (max pages 0) 64).toNat) := by
  obtain ⟨B, he, h1, h2, h3⟩ := h
  exact ⟨B, he, h1, h2, h3, hT.call h3⟩
theorem start_none (n i : Nat) (p : PM) : (start n).ps[i]? ≠ some (some p) := by
  intro e
  have e : (List.replicate n (none : Option PM))[i]? = some (some p) := e
  rw [List.getElem?_replicate] at e
  split at e <;> simp at e
theorem lit0 : ((1048576 + 32 * 0 + 0 * 2 : Nat) : Int) = 1048576 := by decide
theorem lit2 : ((1048576 + 32 * 0 + 1 * 2 : Nat) : Int) = 1048578 := by decide
/-- The states that the first call comes by. -/
def s1 (bp : Nat) : HS := { start 2 with ps := (start 2).ps.set 0 (some ⟨bp, 1, 16, 0, 0⟩) }
def s2 (bp : Nat) : HS := made (s1 bp) 0 ⟨bp, 1, 16, 0, 0⟩ 0 2 0 2 false
def s3 (bp : Nat) : HS := made (s2 bp) 0 ⟨bp, 1, 16, ins 0 0, del 0 0⟩ 1 2 0 2 false
def s4 (bp : Nat) : HS := { s3 bp with M := put (s3 bp).M 0 1 (some (0, 2, 1)) }
theorem gone4 (bp : Nat) : goneN (s4 bp).M 0 (Bit.bl (ins (ins 0 0) 1)) = 1 := by
  have : Bit.bl (ins (ins 0 0) 1) = [0, 1] := by decide
  rw [this]
  rfl
def s5 (bp : Nat) (x : Option PM) : HS := { s4 bp with ps := (s4 bp).ps.set 0 x, M := swM (s4 bp).M 0 (Bit.bl (ins (ins 0 0) 1)) }
theorem M5_0 (bp : Nat) (x : Option PM) : (s5 bp x).M 0 0 = none := by
  have : Bit.bl (ins (ins 0 0) 1) = [0, 1] := by decide
  unfold s5
  rw [this]
  rfl
theorem M5_1 (bp : Nat) (x : Option PM) : (s5 bp x).M 0 1 = some (0, 2, 0) := by
  have : Bit.bl (ins (ins 0 0) 1) = [0, 1] := by decide
  unfold s5
  rw [this]
  rfl
theorem alive_facts {w w' : World} {B : HB} {bp : Nat} {x : Option PM} (h : HW w w' B [[1, 16]] (s5 bp x)) : hat (s5 bp x) 1048578 = some (0, 1) ∨ x = none := by
  rcases x with _ | q
  · exact .inr rfl
  · left
    obtain ⟨q', hq, hb⟩ := (h.hp.inv 0 1).1 (by rw [M5_1]; rfl)
    obtain ⟨l, hl, h0, hc⟩ := h.hp.fit 0 1 _ q' (M5_1 bp (some q)) hq
    have hl : some [1, 16] = some l := hl
    have hl := Option.some.inj hl
    subst hl
    have hc : (1 : Int) = q'.c := hc
    have := hat_at (z := 2) h.hp hq ((h.hp.ar.page 0 q' hq).1.inU 1 hb) hb (by rw [← hc]; rfl)
    rw [lit2] at this
    exact this
theorem gone_a {w w' : World} {B : HB} {bp : Nat} {x : Option PM} (h : HW w w' B [[1, 16]] (s5 bp x)) : hat (s5 bp x) 1048576 = none := by
  refine hat_gone h.hp fun k s z hz he _ => ?_
  have h1 : 32 * k + s * z = 0 := by omega
  have h2 : k = 0 := by omega
  have h3 : s * z = 0 := by omega
  have h4 : s = 0 := by
    rcases Nat.mul_eq_zero.1 h3 with h | h
    · exact h
    · omega
  subst h2 h4
  exact M5_0 bp x
theorem kept_x {bp : Nat} {x : Option PM} (h : (x = none ∧ ∀ s, swM (s4 bp).M 0 (Bit.bl (ins (ins 0 0) 1)) 0 s = none) ∨ ∃ q, x = some q ∧ q.b = bp ∧ q.c = 1 ∧ q.n = 16 ∧ ∃ s, (swM (s4 bp).M 0 (Bit.bl (ins (ins 0 0) 1)) 0 s).isSome = true) : x ≠ none := by
  rcases h with ⟨rfl, h⟩ | ⟨q, rfl, _⟩
  · have h1 := h 1
    have h2 := M5_1 bp none
    exact absurd (h2.symm.trans h1) (by simp)
  · simp
theorem obj_b {w w' : World} {bp : Nat} {x : Option PM} {e : Ending} (h : ObjIs [[1, 16]] (s5 bp x) 1048578 w e w') (hh : hat (s5 bp x) 1048578 = some (0, 1)) :
    ∃ a c, e = .returned (.tuple #[.agg #[.int .i64 1048578, .int .i64 0, .int .i64 2, .slice a 2 c, .bool false], .bool true]) ∧ Below w.heap.size w w' := by
  rcases h with ⟨h1, _⟩ | ⟨k, s, t, a, c, h1, h2, h3, _, h5⟩
  · rw [hh] at h1; cases h1
  · rw [hh] at h1
    have h1 := Option.some.inj h1
    injection h1 with e1 e2
    subst e1 e2
    rw [M5_1] at h2
    have h2 := Option.some.inj h2
    subst h2
    have hn : nfl [[1, 16]] (s5 bp x) 0 1 = 2 := by
      unfold nfl
      rw [M5_1]
      rfl
    rw [hn] at h3
    exact ⟨a, c, h3, h5⟩
theorem obj_a {w w' : World} {bp : Nat} {x : Option PM} {e : Ending} (h : ObjIs [[1, 16]] (s5 bp x) 1048576 w e w') (hh : hat (s5 bp x) 1048576 = none) :
    e = .returned (.tuple #[.agg #[.int .i64 0, .int .i64 0, .int .i64 0, .slice none 0 0, .bool false], .bool false]) ∧ Below w.heap.size w w' := by
  rcases h with ⟨_, h2, h3⟩ | ⟨k, s, t, a, c, h1, _⟩
  · exact ⟨h2, h3⟩
  · rw [hh] at h1; cases h1
set_option maxRecDepth 100000 in
set_option maxHeartbeats 1000000 in
theorem alive (w : World) (hT : Tab w) (h0 : 0 < w.heap.size) : Calls Tryd.prog 26 #[] w fun e w' => e = .returned (.bool true) ∧ Below w.heap.size w w' := by
  have HT := Lib.hid hT
  have H0 := Lib.hid h0
  clear hT h0
  go_enter Tryd.func26, Tryd.ntmps26
  go_wp2_with fail
  have hb1 := fresh_alloc (fresh_alloc (Below.refl w.heap.size w) (.cells #[.int .i64 1, .int .i64 16] 3)) (.cells #[.slice (some ⟨w.heap.size, 0, none⟩) 2 2] 64)
  have hrs := rs_lit w [1, 16] #[.int .i64 1, .int .i64 16] rfl (by decide) (by decide)
  have HB1 := Lib.hid hb1
  have HT1 := Lib.hid (HT.out.call hb1)
  have HRS := Lib.hid hrs
  clear hb1 hrs
  refine (new_any 2 _ 1 1 [[1, 16]] _ HRS.out chk_1).mono ?_
  intro e w1 hn
  obtain ⟨B, rfl, hw1⟩ := start_at HT1.out hn
  have H1 := Lib.hid (show HW w w1 B [[1, 16]] (start 2) from ⟨hw1.hp, Nat.le_trans HB1.out.size hw1.newy, fresh_call HB1.out hw1.bel, hw1.tab⟩)
  clear hn hw1 HRS HT1 HB1
  dsimp only
  go_wp2_with fail
  refine (alloc_any B [[1, 16]] (start 2) 0 [1, 16] false _ H1.out.hp H1.out.tab (H1.out.foot0 H0.out) rfl (by decide) (by decide)).mono ?_
  intro e w2 ha
  obtain ⟨rfl, -, hb2⟩ := al_no ha (fun i hi p hp => absurd hp (start_none 2 i p))
  have H2 := Lib.hid (H1.out.call hb2)
  clear ha hb2 H1
  dsimp only
  go_wp2_with fail
  refine (fresh_any B [[1, 16]] (start 2) 1 16 _ H2.out.hp (by decide) (by decide)).mono ?_
  intro e w3 hf
  obtain ⟨bp, rfl, hbp, hat3, hk3⟩ := fr_is hf (k := 0) rfl (fun i hi => by omega)
  have H3 := Lib.hid (show HW w w3 B [[1, 16]] (s1 bp) from H2.out.step H0.out hat3 hk3 (fun i hi => hi ▸ foot_gp B _))
  clear hf hbp hat3 hk3 H2
  dsimp only
  go_wp2_with fail
  refine (alloc_any B [[1, 16]] (s1 bp) 0 [1, 16] false _ H3.out.hp H3.out.tab (H3.out.foot0 H0.out) rfl (show (0 : Int) ≤ 0 ∧ (0 : Int) ≤ 4611686018427387904 by decide) (show (0 : Int) ≤ 0 ∧ (0 : Int) ≤ 4611686018427387904 by decide)).mono ?_
  intro e w4 ha
  obtain ⟨rfl, hat4, hk4⟩ := al_is ha (k := 0) (s := 0) (z := 2) (p := ⟨bp, 1, 16, 0, 0⟩) rfl rfl (fun i hi => by omega) (show 0 < 16 by omega) (show (0 : Nat).testBit 0 = false by decide) (fun i hi => by omega) rfl
  rw [lit0]
  have H4 := Lib.hid (show HW w w4 B [[1, 16]] (s2 bp) from H3.out.step H0.out hat4 hk4 (foot_al (k := 0) rfl))
  clear ha hat4 hk4 H3
  dsimp only
  go_wp2_with fail
  refine (alloc_any B [[1, 16]] (s2 bp) 0 [1, 16] false _ H4.out.hp H4.out.tab (H4.out.foot0 H0.out) rfl (show (0 : Int) ≤ 0 + 1 ∧ (0 : Int) + 1 ≤ 4611686018427387904 by decide) (show (0 : Int) ≤ 0 + 2 ∧ (0 : Int) + 2 ≤ 4611686018427387904 by decide)).mono ?_
  intro e w5 ha
  obtain ⟨rfl, hat5, hk5⟩ := al_is ha (k := 0) (s := 1) (z := 2) (p := ⟨bp, 1, 16, ins 0 0, del 0 0⟩) rfl rfl (fun i hi => by omega) (show 1 < 16 by omega) (show (ins 0 0).testBit 1 = false by decide) (fun i hi => by
    obtain rfl : i = 0 := by omega
    exact (show (ins 0 0).testBit 0 = true by decide)) rfl
  rw [lit2]
  have H5 := Lib.hid (show HW w w5 B [[1, 16]] (s3 bp) from H4.out.step H0.out hat5 hk5 (foot_al (k := 0) rfl))
  have hh5 := hat_at (z := 2) H5.out.hp (k := 0) (s := 1) (p := ⟨bp, 1, 16, ins (ins 0 0) 1, del (del 0 0) 1⟩) rfl (show 1 < 16 by omega) (show (ins (ins 0 0) 1).testBit 1 = true by decide) rfl
  rw [lit2] at hh5
  have HH5 := Lib.hid hh5
  clear hh5
  clear ha hat5 hk5 H4
  dsimp only
  go_wp2_with fail
  refine (shade_yes B [[1, 16]] (s3 bp) 1048578 0 1 (0, 2, 0) _ H5.out.hp (by decide) HH5.out rfl rfl).mono ?_
  rintro e w6 ⟨rfl, hat6, hk6⟩
  have H6 := Lib.hid (show HW w w6 B [[1, 16]] (s4 bp) from H5.out.step H0.out hat6 hk6 (fun i hi => hi ▸ foot_bm B _))
  clear hat6 hk6 H5
  dsimp only
  go_wp2_with fail
  refine (sweep_some B [[1, 16]] (s4 bp) 0 ⟨bp, 1, 16, ins (ins 0 0) 1, del (del 0 0) 1⟩ _ H6.out.hp H6.out.tab rfl).mono ?_
  rintro e w7 ⟨x, rfl, hat7, hk7, hx⟩
  have H7 := Lib.hid (show HW w w7 B [[1, 16]] (s5 bp x) from H6.out.step H0.out hat7 hk7 (foot_sw (k := 0) (p := ⟨bp, 1, 16, ins (ins 0 0) 1, del (del 0 0) 1⟩) rfl))
  have HH7 := Lib.hid (show hat (s5 bp x) 1048578 = some (0, 1) from (alive_facts H7.out).resolve_right (kept_x hx))
  rw [gone4]
  clear hat7 hk7 H6 HH5 hx
  dsimp only
  go_wp2_with fail
  refine (object_any B [[1, 16]] (s5 bp x) 1048578 _ H7.out.hp (by decide)).mono ?_
  intro e w8 ho
  obtain ⟨a, c, rfl, hb8⟩ := obj_b ho HH7.out
  have H8 := Lib.hid (H7.out.call (hb8.trans ((Below.refl _ _).alloc hb8.size (.cells #[.int .i64 1048578, .int .i64 0, .int .i64 2, .slice a 2 c, .bool false] 68))))
  have HO8 := Lib.hid (Blk.new w8 #[.int .i64 1048578, .int .i64 0, .int .i64 2, .slice a 2 c, .bool false] 68)
  clear ho hb8 H7
  dsimp only
  go_wp2_with fail
  generalize w8.alloc (.cells #[.int .i64 1048578, .int .i64 0, .int .i64 2, .slice a 2 c, .bool false] 68) = w9 at *
  obtain ⟨bo, hbo⟩ : ∃ bo, w8.heap.size = bo := ⟨_, rfl⟩
  rw [hbo] at HO8 ⊢
  clear hbo
  refine (object_any B [[1, 16]] (s5 bp x) 1048576 _ H8.out.hp (by decide)).mono ?_
  intro e w10 ho
  obtain ⟨rfl, hb10⟩ := obj_a ho (gone_a H8.out)
  have hbel := hb10.trans ((Below.refl _ _).alloc hb10.size (.cells #[.int .i64 0, .int .i64 0, .int .i64 0, .slice none 0 0, .bool false] 68))
  have H10 := Lib.hid (H8.out.call hbel)
  have o10 := HO8.out.call hb10
  have o2 : w10.cell? ⟨bo, 2, none⟩ = some (.int .i64 2) := o10.cell 2
  have o3 : w10.cell? ⟨bo, 3, none⟩ = some (.slice a 2 c) := o10.cell 3
  have ol := o10.lt
  clear ho hb10 H8 HO8 hbel o10
  dsimp only
  go_wp2_with fail
  generalize w10.alloc (.cells #[.int .i64 0, .int .i64 0, .int .i64 0, .slice none 0 0, .bool false] 68) = w11 at *
  have HC := Lib.hid (show col (s5 bp x) 1048578 = 0 by unfold col; rw [HH7.out]; dsimp only; rw [M5_1]; rfl)
  have HGV := Lib.hid (show (s5 bp x).gv = 4 from rfl)
  refine (color_any B [[1, 16]] (s5 bp x) 1048578 _ H10.out.hp (by decide)).mono ?_
  rw [HC.out]
  rintro e w12 ⟨rfl, hb12⟩
  have H12 := Lib.hid (H10.out.call hb12)
  clear hb12
  dsimp only
  go_wp2_with fail
  refine (given_any B [[1, 16]] (s5 bp x) _ H12.out.hp).mono ?_
  rw [HGV.out]
  rintro e w13 ⟨rfl, rfl⟩
  dsimp only
  go_wp2_with fail
  go_ret
  exact ⟨rfl, H12.out.bel⟩
end Go.Proofs.YtfgpadkoonogpaaDoor.Hp
