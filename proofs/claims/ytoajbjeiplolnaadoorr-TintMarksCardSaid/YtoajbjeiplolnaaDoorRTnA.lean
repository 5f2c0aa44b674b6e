/- Package besomlaw20: a heap beside a pile that is empty; its first call answers true. -/
import Derived.Test.YtoajbjeiplolnaaDoorRTq
import Derived.Test.YtoajbjeiplolnaaDoorRHpA
namespace Go.Proofs.YtoajbjeiplolnaaDoorR.Tn
open Go.RowKit Ar Hp
set_option linter.unusedSimpArgs false
set_option linter.unusedVariables false

theorem fo_of_hat {w : World} {B : HB} {ls : List (List Int)} {σ : HS} (h : HpAt w B ls σ) {a : Int} {k s : Nat} (e : hat σ a = some (k, s)) : fo σ a = some a := by
  obtain ⟨p, z, f, g, h1, h2, _⟩ := hat_some h e
  unfold fo
  rw [if_pos (by rw [h1]; rfl), h2]
theorem fo_low {σ : HS} {v : Int} (h : v < 1048576) : fo σ v = none := by
  unfold fo slot
  rw [if_pos h]
  rfl
/-- A heap beside an empty pile. -/
structure PH (w wr : World) (B : HB) (ls : List (List Int)) (σ : HS) (zp room : Nat) : Prop where
  hw : HW w wr B ls σ
  pl : Pil.PileAt wr zp zp room [] false (.slice none 0 0)
  far : ¬ HFoot B σ zp
  hz : B.z ≤ zp
namespace PH
variable {w wr w' : World} {B : HB} {ls : List (List Int)} {σ σ' : HS} {zp room : Nat} {S : Nat → Prop}
theorem call (h : PH w wr B ls σ zp room) (hb : Below wr.heap.size wr w') : PH w w' B ls σ zp room := ⟨h.hw.call hb, h.pl.below hb, h.far, h.hz⟩
theorem step (h : PH w wr B ls σ zp room) (hw : HW w w' B ls σ') (hk : Kept S wr w') (hS : ∀ i, S i → HFoot B σ i) (hf : ∀ i, HFoot B σ' i → HFoot B σ i ∨ wr.heap.size ≤ i) : PH w w' B ls σ' zp room :=
  ⟨hw, h.pl.keep fun k hk2 => hk.block k (h.pl.lt hk2) (fun e => by
    rcases hk2 with rfl | hk2
    · exact h.far (hS _ e)
    · cases hk2), fun e => by
    rcases hf zp e with h1 | h1
    · exact h.far h1
    · have := h.pl.1.lt; omega, h.hz⟩
/-- Where the pile is made. -/
theorem made (h : HW w wr B ls σ) (hp : Pil.PileAt w' wr.heap.size wr.heap.size room [] false (.slice none 0 0)) (hb : Below wr.heap.size wr w') : PH w w' B ls σ wr.heap.size room :=
  ⟨h.call hb, hp, fun e => Nat.lt_irrefl _ (h.hp.lt e), Nat.le_of_lt h.hp.z_lt⟩
theorem tr (h : PH w wr B ls σ zp room) (hr : room ≤ 1000) {zs : Nat} {sa : Option Addr} {sc : Nat} (hs : Shp.RS wr zs sa ls.length sc ls) (hzs : zs ≤ B.z) : TR w wr ⟨B, ls, zp, zp, room, zs, sa, sc⟩ σ ⟨col σ, [], false⟩ σ (.slice none 0 0) :=
  ⟨h.hw, Evo.refl σ, fun _ => rfl, h.pl, fun i hi e => (by
    rcases hi with rfl | hi
    · exact h.far e
    · cases hi), h.hz, Nat.zero_le _, hr, fun a ha => (by cases ha), hs, hzs⟩
end PH
theorem made_foot {B : HB} {σ : HS} {k : Nat} {p : PM} {s z sh n : Nat} {bl : Bool} (hp : σ.ps[k]? = some (some p)) : ∀ i, HFoot B (Hp.made σ k p s z sh n bl) i → HFoot B σ i := fun i hi => by
  rcases foot_set (σ := σ) rfl hi with h | ⟨q, hq, rfl⟩
  · exact h
  · obtain rfl := Option.some.inj hq
    exact (show HFoot B σ p.b from foot_pg hp)
theorem fresh_foot {B : HB} {σ : HS} {k : Nat} {p : PM} {n : Nat} (hb : n ≤ p.b) : ∀ i, HFoot B { σ with ps := σ.ps.set k (some p) } i → HFoot B σ i ∨ n ≤ i := fun i hi => by
  rcases foot_set (σ := σ) rfl hi with h | ⟨q, hq, rfl⟩
  · exact .inl h
  · obtain rfl := Option.some.inj hq
    exact .inr hb
theorem Inv.start {ls : List (List Int)} {σ : HS} (h : ∀ a, col σ a = 0) : Inv ls σ (fun _ => False) noX ⟨col σ, [], false⟩ :=
  ⟨List.Pairwise.nil, fun a ha => (by cases ha), fun _ a ha => (by have ha : col σ a = 1 := ha; rw [h] at ha; cases ha), fun a ha => absurd (h a) ha, fun a => .inl (h a), fun a ha => (by have ha : col σ a = 2 := ha; rw [h] at ha; cases ha), fun a ha => absurd (h a) ha, fun a ha => ha.elim⟩
theorem white_of {σ : HS} (h : ∀ k s t, σ.M k s = some t → t.2.2 = 0) (a : Int) : col σ a = 0 := by
  unfold col
  split
  · rfl
  · rename_i k s _
    rcases hm : σ.M k s with _ | t
    · rfl
    · exact h k s t hm
/-- The two objects of the first call. -/
theorem wh3 (bp : Nat) : ∀ k s t, (s3 bp).M k s = some t → t.2.2 = 0 := by
  intro k s t ht
  have ht : Tm.put (Tm.put (fun _ _ => none) 0 0 (some ((0 : Int), (0 : Int) + 1, (0 : Int)))) 0 1 (some ((0 : Int), (0 : Int) + 1 + 1, (0 : Int))) k s = some t := ht
  unfold Tm.put at ht
  split at ht
  · obtain rfl := Option.some.inj ht
    rfl
  · split at ht
    · obtain rfl := Option.some.inj ht
      rfl
    · cases ht
def s6 (bp : Nat) : HS := { s3 bp with ws := (s3 bp).ws.set 1 1048578 }
theorem ptrs_a (bp : Nat) (h : hat (s6 bp) 1048576 = some (0, 0)) : ptrs [[1, 16]] (s6 bp) 1048576 = [1048578] := by
  unfold ptrs
  rw [h]
  rfl
theorem ptrs_b (bp : Nat) (h : hat (s6 bp) 1048578 = some (0, 1)) : ptrs [[1, 16]] (s6 bp) 1048578 = [0] := by
  unfold ptrs
  rw [h]
  rfl
theorem hats {w : World} {B : HB} {ls : List (List Int)} {σ : HS} {bp : Nat} (h : HpAt w B ls σ) (e : σ.ps = (s3 bp).ps) : hat σ 1048576 = some (0, 0) ∧ hat σ 1048578 = some (0, 1) := by
  have hp : σ.ps[0]? = some (some ⟨bp, 1, 16, Pg.ins (Pg.ins 0 0) 1, Pg.del (Pg.del 0 0) 1⟩) := by rw [e]; rfl
  have h1 := hat_at (z := 2) h (k := 0) (s := 0) hp (show 0 < 16 by omega) (show (Pg.ins (Pg.ins 0 0) 1).testBit 0 = true by decide) rfl
  have h2 := hat_at (z := 2) h (k := 0) (s := 1) hp (show 1 < 16 by omega) (show (Pg.ins (Pg.ins 0 0) 1).testBit 1 = true by decide) rfl
  rw [lit0] at h1
  rw [lit2] at h2
  exact ⟨h1, h2⟩
theorem one_src (w : World) {x : Int} (P : Nat → Prop) (hP : ∀ i, P i → i < w.heap.size) : ∀ j z, [x][j]? = some z → ∃ sb off, some (⟨w.heap.size, 0, none⟩ : Addr) = some ⟨sb, off, none⟩ ∧ sb < (w.alloc (.cells #[.int .i64 x] 3)).heap.size ∧ ¬ P sb ∧ (w.alloc (.cells #[.int .i64 x] 3)).cell? ⟨sb, off + j, none⟩ = some (.int .i64 z) := fun j z hz => by
  obtain ⟨rfl, rfl⟩ : j = 0 ∧ z = x := by
    rcases j with _ | j
    · exact ⟨rfl, by simpa using hz.symm⟩
    · simp at hz
  exact ⟨w.heap.size, 0, rfl, by simp, fun e => Nat.lt_irrefl _ (hP _ e), (Blk.new w #[.int .i64 z] 3).cell 0⟩
theorem stT_one (ls : List (List Int)) (σ : HS) (room : Nat) (c : Int → Int) (a : Int) (b : Bool) : stT ls σ room ⟨c, [a], b⟩ = (⟨upd (shA σ room (ptrs ls σ a) (⟨c, [], b⟩, 0)).1.c a 2, (shA σ room (ptrs ls σ a) (⟨c, [], b⟩, 0)).1.l, (shA σ room (ptrs ls σ a) (⟨c, [], b⟩, 0)).1.lost⟩, 1 + ((shA σ room (ptrs ls σ a) (⟨c, [], b⟩, 0)).2 : Int)) := rfl
theorem upd_same (c : Int → Int) (a x : Int) : upd c a x a = x := if_pos rfl
theorem upd_ne (c : Int → Int) {a b : Int} (x : Int) (h : b ≠ a) : upd c a x b = c b := if_neg h
/-- The first steps, by the colors. -/
theorem first_steps (bp : Nat) (room : Nat) (hr : 1 ≤ room) (ha : hat (s6 bp) 1048576 = some (0, 0)) (hb : hat (s6 bp) 1048578 = some (0, 1)) (fa : fo (s6 bp) 1048576 = some 1048576) (fb : fo (s6 bp) 1048578 = some 1048578) (hw : ∀ a, col (s6 bp) a = 0) :
    ∃ T1 T2 T3 : TS, shA (s6 bp) room [1048576] (⟨col (s6 bp), [], false⟩, 0) = (T1, 1) ∧ T1.l = [1048576] ∧ T1.c 1048576 = 1 ∧ stT [[1, 16]] (s6 bp) room T1 = (T2, 2) ∧ T2.l = [1048578] ∧ T2.c 1048578 = 1 ∧ stT [[1, 16]] (s6 bp) room T2 = (T3, 1) ∧ T3.l = [] ∧ T3.lost = false ∧ T3.c 1048578 = 2 := by
  have h1 : ∀ c : Int → Int, ∀ a : Int, putT room ⟨c, [], false⟩ [a] = ⟨c, [a], false⟩ := fun c a => by
    unfold putT
    have h2 : [a].take room = [a] := List.take_of_length_le (by simpa using hr)
    have h3 : ¬ room < 1 := by omega
    simp [h2, h3]
  have e1 : shA (s6 bp) room [1048576] (⟨col (s6 bp), [], false⟩, 0) = (⟨upd (col (s6 bp)) 1048576 1, [1048576], false⟩, 1) := by
    show sh1 (s6 bp) room (⟨col (s6 bp), [], false⟩, 0) 1048576 = _
    rw [sh1_new fa (hw _)]
    exact congrArg (fun x => (x, 1)) (h1 _ _)
  have c1 : upd (col (s6 bp)) 1048576 1 1048578 = 0 := by
    unfold upd
    rw [if_neg (by decide)]
    exact hw _
  have e2 : stT [[1, 16]] (s6 bp) room ⟨upd (col (s6 bp)) 1048576 1, [1048576], false⟩ = (⟨upd (upd (upd (col (s6 bp)) 1048576 1) 1048578 1) 1048576 2, [1048578], false⟩, 2) := by
    rw [stT_one, ptrs_a bp ha]
    have e : shA (s6 bp) room [1048578] (⟨upd (col (s6 bp)) 1048576 1, [], false⟩, 0) = (⟨upd (upd (col (s6 bp)) 1048576 1) 1048578 1, [1048578], false⟩, 1) := by
      show sh1 (s6 bp) room (⟨upd (col (s6 bp)) 1048576 1, [], false⟩, 0) 1048578 = _
      rw [sh1_new fb c1]
      exact congrArg (fun x => (x, 1)) (h1 _ _)
    rw [e]
    rfl
  have e3 : stT [[1, 16]] (s6 bp) room ⟨upd (upd (upd (col (s6 bp)) 1048576 1) 1048578 1) 1048576 2, [1048578], false⟩ = (⟨upd (upd (upd (upd (col (s6 bp)) 1048576 1) 1048578 1) 1048576 2) 1048578 2, [], false⟩, 1) := by
    rw [stT_one, ptrs_b bp hb]
    have e : shA (s6 bp) room [0] (⟨upd (upd (upd (col (s6 bp)) 1048576 1) 1048578 1) 1048576 2, [], false⟩, 0) = (⟨upd (upd (upd (col (s6 bp)) 1048576 1) 1048578 1) 1048576 2, [], false⟩, 0) := by
      show sh1 (s6 bp) room (⟨upd (upd (upd (col (s6 bp)) 1048576 1) 1048578 1) 1048576 2, [], false⟩, 0) 0 = _
      exact sh1_none (fo_low (by decide))
    rw [e]
    rfl
  have c2 : upd (upd (upd (col (s6 bp)) 1048576 1) 1048578 1) 1048576 2 1048578 = 1 := by rw [upd_ne _ _ (by decide), upd_same]
  exact ⟨_, _, _, e1, rfl, upd_same (col (s6 bp)) 1048576 1, e2, rfl, c2, e3, rfl, rfl, upd_same (upd (upd (upd (col (s6 bp)) 1048576 1) 1048578 1) 1048576 2) 1048578 2⟩
set_option maxRecDepth 100000 in
set_option maxHeartbeats 2000000 in
theorem alive (w : World) (hT : Pg.Tab w) : Calls Tryd.prog 60 #[] w fun e w' => e = .returned (.bool true) ∧ Below w.heap.size w w' := by
  have HT := Lib.hid hT
  have H0 := Lib.hid hT.1
  clear hT
  go_enter Tryd.func60, Tryd.ntmps60
  go_wp2_with fail
  have hb1 := fresh_alloc (fresh_alloc (Below.refl w.heap.size w) (.cells #[.int .i64 1, .int .i64 16] 3)) (.cells #[.slice (some ⟨w.heap.size, 0, none⟩) 2 2] 64)
  have hrs := rs_lit w [1, 16] #[.int .i64 1, .int .i64 16] rfl (by decide) (by decide)
  have HB1 := Lib.hid hb1
  have HT1 := Lib.hid (HT.out.call hb1)
  have HRS := Lib.hid hrs
  clear hb1 hrs
  refine (Hp.new_any 2 _ 1 1 [[1, 16]] _ HRS.out chk_1).mono ?_
  generalize (w.alloc (.cells #[.int .i64 1, .int .i64 16] 3)).alloc (.cells #[.slice (some ⟨w.heap.size, 0, none⟩) 2 2] 64) = W at *
  intro e w1 hn
  obtain ⟨B, rfl, hw1⟩ := start_at HT1.out hn
  have H01 := Lib.hid HT1.out.1
  have H1 := Lib.hid (show HW W w1 B [[1, 16]] (Hp.start 2) from hw1)
  clear hn hw1
  dsimp only
  go_wp2_with fail
  refine (Pil.new_any 5 _).mono ?_
  rintro e w2 ⟨rfl, hp2, hb2⟩
  rw [show (min (max (5 : Int) 1) 1000).toNat = 5 by decide] at hp2
  have H2 := Lib.hid (PH.made H1.out hp2 hb2)
  clear hp2 hb2 H1
  obtain ⟨zp, hzp⟩ : ∃ zp, w1.heap.size = zp := ⟨_, rfl⟩
  rw [hzp] at H2 ⊢
  clear hzp
  dsimp only
  go_wp2_with fail
  refine (fresh_any B [[1, 16]] (Hp.start 2) 1 16 _ H2.out.hw.hp (by decide) (by decide)).mono ?_
  intro e w3 hf
  obtain ⟨bp, rfl, hbp, hat3, hk3⟩ := fr_is hf (k := 0) rfl (fun i hi => by omega)
  have H3 := Lib.hid (show PH W w3 B [[1, 16]] (s1 bp) zp 5 from H2.out.step (H2.out.hw.step H01.out hat3 hk3 (fun i hi => hi ▸ foot_gp B _)) hk3 (fun i hi => hi ▸ foot_gp B _) (fresh_foot hbp))
  clear hf hbp hat3 hk3 H2
  dsimp only
  go_wp2_with fail
  refine (alloc_any B [[1, 16]] (s1 bp) 0 [1, 16] false _ H3.out.hw.hp H3.out.hw.tab (H3.out.hw.foot0 H01.out) rfl (show (0 : Int) ≤ 0 ∧ (0 : Int) ≤ 4611686018427387904 by decide) (show (0 : Int) ≤ 0 ∧ (0 : Int) ≤ 4611686018427387904 by decide)).mono ?_
  intro e w4 ha
  obtain ⟨rfl, hat4, hk4⟩ := al_is ha (k := 0) (s := 0) (z := 2) (p := ⟨bp, 1, 16, 0, 0⟩) rfl rfl (fun i hi => by omega) (show 0 < 16 by omega) (show (0 : Nat).testBit 0 = false by decide) (fun i hi => by omega) rfl
  rw [lit0]
  have H4 := Lib.hid (show PH W w4 B [[1, 16]] (s2 bp) zp 5 from H3.out.step (H3.out.hw.step H01.out hat4 hk4 (foot_al (k := 0) rfl)) hk4 (foot_al (k := 0) rfl) (fun i hi => .inl (made_foot (k := 0) rfl i hi)))
  clear ha hat4 hk4 H3
  dsimp only
  go_wp2_with fail
  refine (alloc_any B [[1, 16]] (s2 bp) 0 [1, 16] false _ H4.out.hw.hp H4.out.hw.tab (H4.out.hw.foot0 H01.out) rfl (show (0 : Int) ≤ 0 + 1 ∧ (0 : Int) + 1 ≤ 4611686018427387904 by decide) (show (0 : Int) ≤ 0 + 2 ∧ (0 : Int) + 2 ≤ 4611686018427387904 by decide)).mono ?_
  intro e w5 ha
  obtain ⟨rfl, hat5, hk5⟩ := al_is ha (k := 0) (s := 1) (z := 2) (p := ⟨bp, 1, 16, Pg.ins 0 0, Pg.del 0 0⟩) rfl rfl (fun i hi => by omega) (show 1 < 16 by omega) (show (Pg.ins 0 0).testBit 1 = false by decide) (fun i hi => by
    obtain rfl : i = 0 := by omega
    exact (show (Pg.ins 0 0).testBit 0 = true by decide)) rfl
  rw [lit2]
  have H5 := Lib.hid (show PH W w5 B [[1, 16]] (s3 bp) zp 5 from H4.out.step (H4.out.hw.step H01.out hat5 hk5 (foot_al (k := 0) rfl)) hk5 (foot_al (k := 0) rfl) (fun i hi => .inl (made_foot (k := 0) rfl i hi)))
  obtain ⟨hha, hhb⟩ := hats (bp := bp) H5.out.hw.hp rfl
  have HHF := Lib.hid (show hasF [[1, 16]] (s3 bp) 1048576 1 = true by
    unfold hasF
    rw [hha]
    show (decide ((0 : Int) ≤ 1) && decide ((1 : Int) < ((2 : Nat) : Int))) = true
    decide)
  clear hha hhb ha hat5 hk5 H4
  dsimp only
  go_wp2_with fail
  refine (hstore_yes B [[1, 16]] (s3 bp) 1048576 1 1048578 _ H5.out.hw.hp (by decide) HHF.out).mono ?_
  rintro e w6 ⟨rfl, hat6, hk6⟩
  have H6 := Lib.hid (show PH W w6 B [[1, 16]] (s6 bp) zp 5 from H5.out.step (H5.out.hw.step H01.out hat6 hk6 (fun i hi => hi ▸ foot_gw B _)) hk6 (fun i hi => hi ▸ foot_gw B _) (fun i hi => .inl hi))
  obtain ⟨hha, hhb⟩ := hats (bp := bp) H6.out.hw.hp rfl
  obtain ⟨T1, T2, T3, t1, t2, t3, t4, t5, t6, t7, t8, t9, t10⟩ := first_steps bp 5 (by omega) hha hhb (fo_of_hat H6.out.hw.hp hha) (fo_of_hat H6.out.hw.hp hhb) (white_of (wh3 bp))
  have HT1' := Lib.hid (show T1.l = [] ++ [1048576] ∧ T1.c 1048576 = 1 ∧ T2.l = [] ++ [1048578] ∧ T2.c 1048578 = 1 ∧ T3.l = [] ∧ T3.lost = false ∧ T3.c 1048578 = 2 from ⟨t2, t3, t5, t6, t8, t9, t10⟩)
  have HE1 := Lib.hid t1
  have HE2 := Lib.hid t4
  have HE3 := Lib.hid t7
  have HPA := Lib.hid (ptrs_a bp hha)
  have HPB := Lib.hid (ptrs_b bp hhb)
  have HTR := Lib.hid (H6.out.tr (by omega) (sa := some ⟨w.heap.size + 1, 0, none⟩) (sc := 1) (HRS.out.keep H6.out.hw.bel) (Nat.le_trans H6.out.hw.newy H6.out.hw.hp.yz))
  clear t1 t2 t3 t4 t5 t6 t7 t8 t9 t10 hha hhb hat6 hk6 H5 HHF
  dsimp only
  go_wp2_with fail
  have hA := fresh_alloc (Below.refl w6.heap.size w6) (.cells #[.int .i64 1048576] 3)
  refine (shade_any W _ _ (s6 bp) _ _ _ H01.out (HTR.out.call hA) _ 1 1 [1048576] rfl (by omega) (fun x hx => by rw [List.mem_singleton.1 hx]; decide) (one_src w6 _ fun i hi => HTR.out.foot_lt hi)).mono ?_
  rw [HE1.out]
  rintro e w7 ⟨σ7, v7, rfl, htr7, _, _⟩
  have H7 := Lib.hid htr7
  clear htr7 hA HTR H6
  dsimp only
  go_wp2_with fail
  refine (step_grey W _ _ (s6 bp) T1 _ _ H01.out H7.out [] 1048576 HT1'.out.1 HT1'.out.2.1 (fun x hx => by
    have hx : x ∈ ptrs [[1, 16]] (s6 bp) 1048576 := hx
    rw [HPA.out] at hx
    rw [List.mem_singleton.1 hx]; decide)).mono ?_
  rw [HE2.out]
  rintro e w8 ⟨σ8, v8, rfl, htr8, _, _⟩
  have H8 := Lib.hid htr8
  clear htr8 H7
  dsimp only
  go_wp2_with fail
  refine (step_grey W _ _ (s6 bp) T2 _ _ H01.out H8.out [] 1048578 HT1'.out.2.2.1 HT1'.out.2.2.2.1 (fun x hx => by
    have hx : x ∈ ptrs [[1, 16]] (s6 bp) 1048578 := hx
    rw [HPB.out] at hx
    rw [List.mem_singleton.1 hx]; decide)).mono ?_
  rw [HE3.out]
  rintro e w9 ⟨σ9, v9, rfl, htr9, _, _⟩
  have H9 := Lib.hid htr9
  clear htr9 H8
  dsimp only
  go_wp2_with fail
  refine (step_end W _ _ (s6 bp) T3 _ _ H9.out HT1'.out.2.2.2.2.1 HT1'.out.2.2.2.2.2.1).mono ?_
  rintro e w10 ⟨rfl, rfl⟩
  dsimp only
  go_wp2_with fail
  refine (done_any W _ _ (s6 bp) T3 _ _ H9.out).mono ?_
  rw [HT1'.out.2.2.2.2.1, HT1'.out.2.2.2.2.2.1]
  rintro e w10 ⟨rfl, rfl⟩
  dsimp only
  go_wp2_with fail
  refine (color_any B [[1, 16]] σ9 1048578 _ H9.out.hw.hp (by decide)).mono ?_
  rw [H9.out.col, HT1'.out.2.2.2.2.2.2]
  rintro e w10 ⟨rfl, hb10⟩
  have HB10 := Lib.hid (fresh_call HB1.out (fresh_call H9.out.hw.bel hb10))
  dsimp only
  go_wp2_with fail
  go_ret
  exact ⟨rfl, HB10.out⟩
end Go.Proofs.YtoajbjeiplolnaaDoorR.Tn
