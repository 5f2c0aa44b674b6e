/- The walk of besomlaw20.TintNumbers: it returns true, and writes nothing that was there. -/
import Derived.Test.YtoajbjeiplolnaaDoorRTnA
namespace Go.Proofs.YtoajbjeiplolnaaDoorR.TintNumbers
open Go.RowKit Ar Hp Tn
set_option linter.unusedSimpArgs false
set_option linter.unusedVariables false

def s7 (bp : Nat) (v : Int) : HS := { s3 bp with ws := ((s3 bp).ws.set 0 1048578).set 1 v }
theorem ptrs_a (bp : Nat) (v : Int) (h : hat (s7 bp v) 1048576 = some (0, 0)) : ptrs [[1, 1]] (s7 bp v) 1048576 = [] := by
  unfold ptrs
  rw [h]
  rfl
theorem ptrs_all (bp : Nat) (v : Int) : ∀ a, ∀ x ∈ ptrs [[1, 1]] (s7 bp v) a, x ≤ 9223372036854775807 := by
  intro a x hx
  exfalso
  unfold ptrs at hx
  split at hx
  · cases hx
  · rename_i k s _
    have hno : ∀ n, pk [1, 1] (s7 bp v).ws a n = [] := by
      intro n
      induction n with
      | zero => rfl
      | succ n ih =>
        unfold pk
        rw [ih, if_neg]
        · rfl
        · rcases n with _ | _ | n <;> simp [Shp.isP]
    have hno2 : ∀ n, pk [] (s7 bp v).ws a n = [] := by
      intro n
      induction n with
      | zero => rfl
      | succ n ih =>
        unfold pk
        rw [ih, if_neg]
        · rfl
        · simp
    have hl : ∀ j : Nat, ([[1, 1]] : List (List Int)).getD j [] = [1, 1] ∨ ([[1, 1]] : List (List Int)).getD j [] = [] := by
      intro j
      rcases j with _ | j
      · exact .inl rfl
      · exact .inr rfl
    rcases hl (((s7 bp v).M k s).getD (0, 0, 0)).1.toNat with e | e
    · rw [e, hno] at hx; cases hx
    · rw [e, hno2] at hx; cases hx
theorem all_two (bp : Nat) (v : Int) : (All (s7 bp v)).length = 2 := by
  have h0 : begins (s7 bp v).ps 0 = (Bit.bl (Pg.ins (Pg.ins 0 0) 1)).map fun (s : Nat) => base (s7 bp v).ps 0 (s : Int) := rfl
  have h1 : begins (s7 bp v).ps 1 = [] := rfl
  have h2 : All (s7 bp v) = ([] ++ begins (s7 bp v).ps 0) ++ begins (s7 bp v).ps 1 := rfl
  have h3 : Bit.bl (Pg.ins (Pg.ins 0 0) 1) = [0, 1] := by decide
  rw [h2, h1, h0, h3]
  rfl
theorem hasF_a {σ : HS} {ls : List (List Int)} (hh : hat σ 1048576 = some (0, 0)) (hn : nfl ls σ 0 0 = 2) : hasF ls σ 1048576 0 = true ∧ hasF ls σ 1048576 1 = true := by
  unfold hasF
  rw [hh]
  dsimp only
  rw [hn]
  exact ⟨by decide, by decide⟩
theorem fo_1 {w : World} {B : HB} {ls : List (List Int)} {σ : HS} (h : HpAt w B ls σ) {bp : Nat} (e : σ.ps = (s3 bp).ps) : fo σ 1048577 = some 1048576 := by
  obtain ⟨hh, _⟩ := hats h e
  obtain ⟨p, z, h1, h2, h3, h4, h5, h6⟩ := slot_inside h hh
  have hp : p = ⟨bp, 1, 16, Pg.ins (Pg.ins 0 0) 1, Pg.del (Pg.del 0 0) 1⟩ := by
    rw [e] at h1
    exact (Option.some.inj (Option.some.inj h1)).symm
  have hz : z = 2 := by
    rw [hp] at h2
    have h2 : (2 : Int) = (z : Int) := h2
    omega
  have h7 := h6 1 (by omega)
  have h8 := h6 0 (by omega)
  obtain ⟨p', z', f, g, g1, g2, _⟩ := hat_some h hh
  unfold fo
  rw [show (1048577 : Int) = 1048576 + ((1 : Nat) : Int) by decide, if_pos (by rw [h7]; rfl)]
  unfold fbase
  rw [h7]
  unfold fbase at g2
  rw [g1] at g2
  have h8 : slot σ.ps (1048576 : Int) = some (0, p, 0) := h8
  rw [g1] at h8
  exact congrArg some g2
set_option maxRecDepth 100000 in
set_option maxHeartbeats 2000000 in
theorem walk (v : Int) (w : World) (hT : Pg.Tab w) (_w0 : (Lit.int .i64 v).wf = true) : Calls Tryd.prog 14 #[.int .i64 v] w fun e w' => e = .returned (.bool true) ∧ Below w.heap.size w w' := by
  have HT := Lib.hid hT
  have H0 := Lib.hid hT.1
  clear hT
  go_enter Tryd.func14, Tryd.ntmps14
  go_wp2_with fail
  refine (Tn.alive _ HT.out).mono ?_
  rintro e w0 ⟨rfl, hb0⟩
  have HB0 := Lib.hid hb0
  have HT0 := Lib.hid (HT.out.call hb0)
  clear hb0
  dsimp only
  go_wp2_with fail
  have hb1 := fresh_alloc (fresh_alloc (Below.refl w0.heap.size w0) (.cells #[.int .i64 1, .int .i64 1] 3)) (.cells #[.slice (some ⟨w0.heap.size, 0, none⟩) 2 2] 64)
  have hrs := rs_lit w0 [1, 1] #[.int .i64 1, .int .i64 1] rfl (by decide) (by decide)
  have HB1 := Lib.hid (fresh_call HB0.out hb1)
  have HT1 := Lib.hid (HT0.out.call hb1)
  have HRS := Lib.hid hrs
  clear hb1 hrs
  refine (Hp.new_any 2 _ 1 1 [[1, 1]] _ HRS.out (by decide)).mono ?_
  generalize (w0.alloc (.cells #[.int .i64 1, .int .i64 1] 3)).alloc (.cells #[.slice (some ⟨w0.heap.size, 0, none⟩) 2 2] 64) = W at *
  intro e w1 hn
  obtain ⟨B, rfl, hw1⟩ := start_at HT1.out hn
  have H01 := Lib.hid HT1.out.1
  have H1 := Lib.hid (show HW W w1 B [[1, 1]] (Hp.start 2) from hw1)
  clear hn hw1
  dsimp only
  go_wp2_with fail
  refine (Pil.new_any 9 _).mono ?_
  rintro e w2 ⟨rfl, hp2, hb2⟩
  rw [show (min (max (9 : Int) 1) 1000).toNat = 9 by decide] at hp2
  have H2 := Lib.hid (PH.made H1.out hp2 hb2)
  clear hp2 hb2 H1
  obtain ⟨zp, hzp⟩ : ∃ zp, w1.heap.size = zp := ⟨_, rfl⟩
  rw [hzp] at H2 ⊢
  clear hzp
  dsimp only
  go_wp2_with fail
  refine (fresh_any B [[1, 1]] (Hp.start 2) 1 16 _ H2.out.hw.hp (by decide) (by decide)).mono ?_
  intro e w3 hf
  obtain ⟨bp, rfl, hbp, hat3, hk3⟩ := fr_is hf (k := 0) rfl (fun i hi => by omega)
  have H3 := Lib.hid (show PH W w3 B [[1, 1]] (s1 bp) zp 9 from H2.out.step (H2.out.hw.step H01.out hat3 hk3 (fun i hi => hi ▸ foot_gp B _)) hk3 (fun i hi => hi ▸ foot_gp B _) (fresh_foot hbp))
  clear hf hbp hat3 hk3 H2
  dsimp only
  go_wp2_with fail
  refine (alloc_any B [[1, 1]] (s1 bp) 0 [1, 1] false _ H3.out.hw.hp H3.out.hw.tab (H3.out.hw.foot0 H01.out) rfl (show (0 : Int) ≤ 0 ∧ (0 : Int) ≤ 4611686018427387904 by decide) (show (0 : Int) ≤ 0 ∧ (0 : Int) ≤ 4611686018427387904 by decide)).mono ?_
  intro e w4 ha
  obtain ⟨rfl, hat4, hk4⟩ := al_is ha (k := 0) (s := 0) (z := 2) (p := ⟨bp, 1, 16, 0, 0⟩) rfl rfl (fun i hi => by omega) (show 0 < 16 by omega) (show (0 : Nat).testBit 0 = false by decide) (fun i hi => by omega) rfl
  rw [lit0]
  have H4 := Lib.hid (show PH W w4 B [[1, 1]] (s2 bp) zp 9 from H3.out.step (H3.out.hw.step H01.out hat4 hk4 (foot_al (k := 0) rfl)) hk4 (foot_al (k := 0) rfl) (fun i hi => .inl (made_foot (k := 0) rfl i hi)))
  clear ha hat4 hk4 H3
  dsimp only
  go_wp2_with fail
  refine (alloc_any B [[1, 1]] (s2 bp) 0 [1, 1] false _ H4.out.hw.hp H4.out.hw.tab (H4.out.hw.foot0 H01.out) rfl (show (0 : Int) ≤ 0 + 1 ∧ (0 : Int) + 1 ≤ 4611686018427387904 by decide) (show (0 : Int) ≤ 0 + 2 ∧ (0 : Int) + 2 ≤ 4611686018427387904 by decide)).mono ?_
  intro e w5 ha
  obtain ⟨rfl, hat5, hk5⟩ := al_is ha (k := 0) (s := 1) (z := 2) (p := ⟨bp, 1, 16, Pg.ins 0 0, Pg.del 0 0⟩) rfl rfl (fun i hi => by omega) (show 1 < 16 by omega) (show (Pg.ins 0 0).testBit 1 = false by decide) (fun i hi => by
    obtain rfl : i = 0 := by omega
    exact (show (Pg.ins 0 0).testBit 0 = true by decide)) rfl
  rw [lit2]
  have H5 := Lib.hid (show PH W w5 B [[1, 1]] (s3 bp) zp 9 from H4.out.step (H4.out.hw.step H01.out hat5 hk5 (foot_al (k := 0) rfl)) hk5 (foot_al (k := 0) rfl) (fun i hi => .inl (made_foot (k := 0) rfl i hi)))
  obtain ⟨hha, hhb⟩ := hats (bp := bp) H5.out.hw.hp rfl
  have HHF := Lib.hid (hasF_a (ls := [[1, 1]]) (σ := s3 bp) hha rfl)
  have HHF2 := Lib.hid (hasF_a (ls := [[1, 1]]) (σ := { s3 bp with ws := (s3 bp).ws.set 0 1048578 }) hha rfl)
  clear hha hhb ha hat5 hk5 H4
  dsimp only
  go_wp2_with fail
  refine (hstore_yes B [[1, 1]] (s3 bp) 1048576 0 1048578 _ H5.out.hw.hp (by decide) HHF.out.1).mono ?_
  rintro e w6 ⟨rfl, hat6, hk6⟩
  have H6 := Lib.hid (show PH W w6 B [[1, 1]] { s3 bp with ws := (s3 bp).ws.set 0 1048578 } zp 9 from H5.out.step (H5.out.hw.step H01.out hat6 hk6 (fun i hi => hi ▸ foot_gw B _)) hk6 (fun i hi => hi ▸ foot_gw B _) (fun i hi => .inl hi))
  clear hat6 hk6 H5 HHF
  dsimp only
  go_wp2_with fail
  refine (hstore_yes B [[1, 1]] { s3 bp with ws := (s3 bp).ws.set 0 1048578 } 1048576 1 v _ H6.out.hw.hp (by decide) HHF2.out.2).mono ?_
  rintro e w7 ⟨rfl, hat7, hk7⟩
  have H7 := Lib.hid (show PH W w7 B [[1, 1]] (s7 bp v) zp 9 from H6.out.step (H6.out.hw.step H01.out hat7 hk7 (fun i hi => hi ▸ foot_gw B _)) hk7 (fun i hi => hi ▸ foot_gw B _) (fun i hi => .inl hi))
  clear hat7 hk7 H6 HHF2
  obtain ⟨hha, hhb⟩ := hats (bp := bp) H7.out.hw.hp rfl
  have hwh : ∀ a, col (s7 bp v) a = 0 := white_of (wh3 bp)
  have hput : ∀ c : Int → Int, putT 9 ⟨c, [], false⟩ [1048576] = ⟨c, [1048576], false⟩ := fun c => rfl
  have HE1 := Lib.hid (show shA (s7 bp v) 9 [1048577] (⟨col (s7 bp v), [], false⟩, 0) = (⟨upd (col (s7 bp v)) 1048576 1, [1048576], false⟩, 1) from by
    show sh1 (s7 bp v) 9 (⟨col (s7 bp v), [], false⟩, 0) 1048577 = _
    rw [sh1_new (fo_1 (bp := bp) H7.out.hw.hp rfl) (hwh _)]
    exact congrArg (fun x => (x, 1)) (hput _))
  have HE2 := Lib.hid (show stT [[1, 1]] (s7 bp v) 9 ⟨upd (col (s7 bp v)) 1048576 1, [1048576], false⟩ = (⟨upd (upd (col (s7 bp v)) 1048576 1) 1048576 2, [], false⟩, 1) from by
    rw [stT_one, ptrs_a bp v hha]
    rfl)
  have hG := Gd.of H7.out.hw.hp
  have HI1 := Lib.hid (show Inv [[1, 1]] (s7 bp v) (fun a => False ∨ fo (s7 bp v) 1048577 = some a) noX ⟨upd (col (s7 bp v)) 1048576 1, [1048576], false⟩ from by
    have := (Inv.sh1_ (ls := [[1, 1]]) (room := 9) (p := (⟨col (s7 bp v), [], false⟩, 0)) (S' := fun a => False ∨ fo (s7 bp v) 1048577 = some a) (v := 1048577) hG (Inv.start hwh) (fun b hb => .base (.inr hb)) (fun a ha => ha.elim) (fun a ha => ha)).1
    have h2 := HE1.out
    have h2 : sh1 (s7 bp v) 9 (⟨col (s7 bp v), [], false⟩, 0) 1048577 = (⟨upd (col (s7 bp v)) 1048576 1, [1048576], false⟩, 1) := h2
    rw [h2] at this
    exact this)
  have HG := Lib.hid hG
  have HMU := Lib.hid (show mu (s7 bp v) ⟨upd (col (s7 bp v)) 1048576 1, [1048576], false⟩ ≤ 4 from by
    have := all_two bp v
    unfold mu
    rw [this, if_neg (fun h => by cases h.1)]
    omega)
  have HC1 := Lib.hid (show upd (upd (col (s7 bp v)) 1048576 1) 1048576 2 1048576 = 2 ∧ upd (upd (col (s7 bp v)) 1048576 1) 1048576 2 1048578 = 0 from ⟨upd_same _ _ _, by rw [upd_ne _ _ (by decide), upd_ne _ _ (by decide)]; exact hwh _⟩)
  have HTR := Lib.hid (H7.out.tr (by omega) (sa := some ⟨w0.heap.size + 1, 0, none⟩) (sc := 1) (HRS.out.keep H7.out.hw.bel) (Nat.le_trans H7.out.hw.newy H7.out.hw.hp.yz))
  have HWD := Lib.hid (ptrs_all bp v)
  clear hha hhb hwh hput hG
  dsimp only
  go_wp2_with fail
  have hA := fresh_alloc (Below.refl w7.heap.size w7) (.cells #[.int .i64 1048577] 3)
  refine (shade_any W _ _ (s7 bp v) _ _ _ H01.out (HTR.out.call hA) _ 1 1 [1048577] rfl (by omega) (fun x hx => by rw [List.mem_singleton.1 hx]; decide) (one_src w7 _ fun i hi => HTR.out.foot_lt hi)).mono ?_
  rw [HE1.out]
  rintro e w8 ⟨σ8, v8, rfl, htr8, _, _⟩
  have H8 := Lib.hid htr8
  clear htr8 hA HTR H7
  dsimp only
  go_wp2_with fail
  refine (drain_any W _ _ (s7 bp v) _ _ _ _ 10 H01.out H8.out HI1.out HG.out (by show 1 ≤ 9; omega) HWD.out (by have := HMU.out; omega) (by have := HMU.out; omega)).mono ?_
  rintro e w9 ⟨n, T', σ9, v9, rfl, hf, _, htr9, _, _, _, _, hit, hnf⟩
  have hn1 : n = 1 := by
    rcases n with _ | _ | n
    · rw [hit] at hf
      cases hf.1
    · rfl
    · refine absurd ?_ (hnf 1 (by omega))
      show fin (stT [[1, 1]] (s7 bp v) 9 ⟨upd (col (s7 bp v)) 1048576 1, [1048576], false⟩).1
      rw [HE2.out]
      exact ⟨rfl, rfl⟩
  subst hn1
  have hT' : T' = ⟨upd (upd (col (s7 bp v)) 1048576 1) 1048576 2, [], false⟩ := hit.trans (by
    show (stT [[1, 1]] (s7 bp v) 9 ⟨upd (col (s7 bp v)) 1048576 1, [1048576], false⟩).1 = _
    rw [HE2.out])
  subst hT'
  have H9 := Lib.hid htr9
  clear hf hit hnf htr9 H8
  dsimp only
  go_wp2_with fail
  refine (color_any B [[1, 1]] σ9 1048576 _ H9.out.hw.hp (by decide)).mono ?_
  rw [show col σ9 1048576 = 2 from (H9.out.col 1048576).trans HC1.out.1]
  rintro e w10 ⟨rfl, hb10⟩
  have H10 := Lib.hid (H9.out.hw.call hb10)
  clear hb10
  dsimp only
  go_wp2_with fail
  refine (color_any B [[1, 1]] σ9 1048578 _ H10.out.hp (by decide)).mono ?_
  rw [show col σ9 1048578 = 0 from (H9.out.col 1048578).trans HC1.out.2]
  rintro e w11 ⟨rfl, hb11⟩
  have HB11 := Lib.hid (fresh_call HB1.out (fresh_call H10.out.bel hb11))
  dsimp only
  go_wp2_with fail
  go_ret
  exact ⟨rfl, HB11.out⟩
end Go.Proofs.YtoajbjeiplolnaaDoorR.TintNumbers
