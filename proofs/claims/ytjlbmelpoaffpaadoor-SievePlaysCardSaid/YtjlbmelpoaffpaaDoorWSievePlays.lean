/- The walk of besomlaw1.SievePlays: it returns true, and writes nothing that was there. -/
import Derived.Test.YtjlbmelpoaffpaaDoorSvP
import Derived.Test.YtjlbmelpoaffpaaDoorArgs
import Derived.Deep.OwnRows
import Derived.Deep.CutBlock
import Derived.Deep.CutRange
import Derived.Deep.RegionLaw
import Derived.OwnWalk
namespace Go.Proofs.YtjlbmelpoaffpaaDoor.SievePlays
open Go.RowKit Sv Wd Bit
set_option linter.unusedSimpArgs false
set_option linter.unusedVariables false

theorem or_pow (y i : Nat) (hy : y < 18446744073709551616) (hi : i < 64) : bits BinOp.or IntKind.u64 (y : Int) ((2 : Int) ^ i) = ((y ||| 2 ^ i : Nat) : Int) := by
  have h := or64 y (2 ^ i) hy (pow_lt hi)
  rw [show ((2 ^ i : Nat) : Int) = (2 : Int) ^ i by simp] at h
  exact h
theorem infoB : (Tryd.prog.info? 4).map (fun i => (i.zero, i.size, i.bytes)) = some (some (.bool false), 1, 1) := by kernel_rfl
theorem wf_bd {x : Int} (h : (Lit.int .i64 x).wf = true) : -9223372036854775808 ≤ x ∧ x ≤ 9223372036854775807 := by
  simp [Lit.wf, IntKind.min, IntKind.max, IntKind.signed, IntKind.bits] at h
  omega
set_option maxRecDepth 100000 in
theorem early (x : Int) (A : Option Addr) (m c : Nat) (fr k : Int) (w : World) (hT : Tab w) (h : 40 < m ∨ 600 < x) :
    Calls Tryd.prog 6 #[.int .i64 x, .slice A m c, .int .i64 fr, .int .i64 k] w fun e w' => e = .returned (.bool true) ∧ Below w.heap.size w w' := by
  have HT := Lib.hid hT
  clear hT
  by_cases h1 : 40 < m
  · have h2 : (40 : Int) < (m : Int) := by omega
    clear h
    go_enter Tryd.func6, Tryd.ntmps6
    go_wp2_with fail
    refine (alive _ HT.out).mono ?_
    rintro e w2 ⟨rfl, hb2⟩
    dsimp only
    go_wp2_with fail
    go_ret
    exact ⟨rfl, hb2⟩
  · have h2 : 600 < x := by omega
    have h3 : (m : Int) ≤ 40 := by omega
    clear h h1
    go_enter Tryd.func6, Tryd.ntmps6
    go_wp2_with fail
    refine (alive _ HT.out).mono ?_
    rintro e w2 ⟨rfl, hb2⟩
    dsimp only
    go_wp2_with fail
    go_ret
    exact ⟨rfl, hb2⟩
set_option maxRecDepth 100000 in
set_option maxHeartbeats 8000000 in
theorem core (x : Int) (A : Option Addr) (m c : Nat) (ops : List (Value × Value)) (fr kk : Int) (w : World) (hT : Tab w) (hl : ops.length = m)
    (wl : ∀ q ∈ ops, (∃ z, q.1 = .int .i64 z ∧ (Lit.int .i64 z).wf = true) ∧ (∃ (A : Option Addr) (n c : Nat) (zs : List Int), q.2 = .slice A n c ∧ zs.length = n ∧ (∀ z ∈ zs, (Lit.int .i64 z).wf = true) ∧ Reads w w.heap.size 1 A n c (zs.map (.int .i64))))
    (hR : Reads w w.heap.size 2 A m c (pairCells ops)) (hm : m ≤ 40) (n : Nat) (hx : x ≤ 600) (hn : (min (max x 0) 4096).toNat = n) (hfr : fr ≤ 9223372036854775807) (f : Nat) (hf : max fr 0 = (f : Int)) :
    Calls Tryd.prog 6 #[.int .i64 x, .slice A m c, .int .i64 fr, .int .i64 kk] w fun e w' => e = .returned (.bool true) ∧ Below w.heap.size w w' := by
  have HT := Lib.hid hT
  have hw0 := hT.1
  have HR := Lib.hid hR
  have HL := Lib.hid hl
  have WL := Lib.hid wl
  have HFR := Lib.hid hfr
  have HF := Lib.hid hf
  have m1 : (m : Int) ≤ 40 := by omega
  have n1 : n ≤ 600 := by omega
  clear hR wl hl hT hfr hf
  have hmk := fun (W : World) => run_make_row' (P := Tryd.prog) 36 4 (.bool false) 1 Tryd.underlying36 infoB rfl .i64 .i64 n (by omega) (by omega) W
  simp only [bcf_made] at hmk
  have HMK := Lib.hid hmk
  go_enter Tryd.func6, Tryd.ntmps6
  go_wp2_with fail
  refine (alive _ HT.out).mono ?_
  rintro e w1 ⟨rfl, hb1⟩
  have HB1 := Lib.hid hb1
  clear hb1
  dsimp only
  go_wp2_with fail
  refine (new_any x _).mono ?_
  rw [hn]
  rintro e w2 hmade
  obtain ⟨b, g, rfl, hs⟩ := SW.made (HT.out.call HB1.out) hmade
  have H2 := Lib.hid (show SW w w2 b g n (List.replicate ((n + 63) / 64) 0) from ⟨hs.sv, ⟨Nat.le_trans HB1.out.size hs.new.1, Nat.le_trans HB1.out.size hs.new.2⟩, below_call HB1.out HB1.out.size hs.bel, hs.tab⟩)
  clear hs hmade HB1 hmk
  dsimp only
  go_upto_region 6 with (fail)
  go_cut [0] from 42 to 44 (fun p wx => p = .int .i64 (n : Int) ∧ wx = w2)
  case first =>
    by_cases hr0 : x < 0
    · have HE := Lib.hid (show (0 : Int) = (n : Int) by omega)
      clear hn n1
      go_wp2_with fail
      go_meet
      exact ⟨by rw [← HE.out], rfl⟩
    · have HE := Lib.hid (show x = (n : Int) by omega)
      have hr2 : 0 ≤ x := by omega
      clear hn n1 hr0
      go_wp2_with fail
      go_meet
      exact ⟨by rw [← HE.out], rfl⟩
  case rest =>
    obtain ⟨rfl, rfl⟩ := hcut
    clear hn hx
    have HI := Lib.hid (info_parts infoI)
    have hz2 := H2.out.bel.size
    have HA := Lib.hid (show SP w ((wc.alloc (.cells (bcf n fun _ => false) 4)).alloc (.cells #[.slice none 0 0, .slice none 0 0, .slice none 0 0, .slice none 0 0, .slice none 0 0, .slice none 0 0, .slice none 0 0, .slice none 0 0, .slice none 0 0, .slice none 0 0] 44)) b g n (List.replicate ((n + 63) / 64) 0) wc.heap.size (has (List.replicate ((n + 63) / 64) 0)) (wc.heap.size + 1) (wc.heap.size + 1) (fun k => k = wc.heap.size + 1) from by
      have h1 := Book.BookIn.new (wc.alloc (.cells (bcf n fun _ => false) 4)) (wc.heap.size + 1) (by simp)
      rw [World.size_alloc] at h1
      exact ⟨((H2.out.call ((Below.refl _ _).alloc (Nat.le_refl _) _)).call ((Below.refl _ _).alloc (Nat.le_refl _) _)), ((Blk.new wc _ _).alloc _).of_eq (bcf_congr fun i _ => (zero_has _ i).symm), hz2, h1, fun k hk => by
        have hb := H2.out.sv.blk.lt
        have hg := H2.out.sv.row.lt
        subst hk
        exact ⟨by omega, by omega, by omega, by omega⟩, by simp⟩)
    go_wp2_with (simp only [HMK.out])
    generalize (wc.alloc (.cells (bcf n fun _ => false) 4)).alloc (.cells #[.slice none 0 0, .slice none 0 0, .slice none 0 0, .slice none 0 0, .slice none 0 0, .slice none 0 0, .slice none 0 0, .slice none 0 0, .slice none 0 0, .slice none 0 0] 44) = w3 at *
    obtain ⟨bk, hbk⟩ : ∃ bk, wc.heap.size + 1 = bk := ⟨_, rfl⟩
    rw [hbk] at HA ⊢
    have hzk : w.heap.size ≤ bk := by omega
    generalize wc.heap.size = bi0 at *
    clear H2 hbk
    go_loopw [10, 12] (fun iv i wr => ∃ (k : Nat) (W : List Nat) (bi : Nat) (S : Nat → Prop), k ≤ m ∧ i = .int .i64 (k : Int) ∧ iv = .slice (some ⟨bi, 0, none⟩) n n ∧ SP w wr b g n W bi (has W) bk bk S) (fun _ i _ => m - (intOf i).toNat)
    case atStart => exact ⟨0, _, bi0, _, Nat.zero_le _, rfl, rfl, HA.out⟩
    case round =>
      obtain ⟨k, W, bi, S, hk, rfl, rfl, hsp⟩ := hrel
      have HP := Lib.hid hsp
      clear hsp HA
      by_cases hlt : k < m
      · have hkm : (k : Int) < (m : Int) := by omega
        have hk0 : (0 : Int) ≤ (k : Int) := by omega
        have hkz : k < ops.length := by have := HL.out; omega
        obtain ⟨⟨kind, hkd, _⟩, ⟨A2, n2, c2, xs, hq2, hxl, hxw, hxr⟩⟩ := WL.out _ (List.getElem_mem hkz)
        have hops := List.getElem?_eq_getElem hkz
        obtain ⟨sb, off, rfl, hsb, hs0⟩ := (HR.out.below HP.out.sw.bel).at_ (pairCells_at hops).1
        obtain ⟨sb', off', hA, hsb', hs1⟩ := (HR.out.below HP.out.sw.bel).at_ (pairCells_at hops).2
        injection hA with hA
        injection hA with hA1 hA2
        subst hA1 hA2
        rw [hkd] at hs0
        rw [hq2, ← Nat.add_assoc] at hs1
        have HX := Lib.hid (show Book.RI w w.heap.size A2 n2 c2 xs from ⟨hxl, hxr⟩)
        have HXW := Lib.hid hxw
        have hsbz : sb < wr.heap.size := by have := HP.out.sw.bel.size; omega
        clear hkd hq2 hsb' hops hkz hxr hxw
        have hbw := HP.out.sw.bel
        by_cases hlong : 60 < n2
        · have h60 : (60 : Int) < (n2 : Int) := by omega
          have HE := Lib.hid (fun o => hbw.trans (((Below.refl w.heap.size wr).alloc hbw.size o)))
          clear hbw
          go_wp2_with fail
          go_ret
          exact ⟨rfl, HE.out _⟩
        · have h60 : (n2 : Int) ≤ 60 := by omega
          clear hbw
          have HP3 := Lib.hid (HP.out.call ((Below.refl _ _).alloc (Nat.le_refl _) (.cells #[.int .i64 kind, .slice A2 n2 c2] 46)))
          have HO3 := Lib.hid (Blk.new wr #[.int .i64 kind, .slice A2 n2 c2] 46)
          obtain ⟨z1, hz1⟩ : ∃ z1, wr.heap.size = z1 := ⟨_, rfl⟩
          have hs3 : (wr.alloc (.cells #[.int .i64 kind, .slice A2 n2 c2] 46)).heap.size = z1 + 1 := by rw [World.size_alloc, hz1]
          have hSz : ∀ k, S k → k < z1 := fun k hk => hz1 ▸ HP.out.book.1 k hk
          have hbz := HP.out.sw.sv.blk.lt
          have hgz := HP.out.sw.sv.row.lt
          have hiz := HP.out.ib.lt
          have hwz := HP.out.sw.bel.size
          have HSZ := Lib.hid hSz
          rw [hz1] at hbz hgz hiz hwz hsbz HO3
          clear hSz
          go_wp2_with fail
          generalize wr.alloc (.cells #[.int .i64 kind, .slice A2 n2 c2] 46) = w3 at *
          refine (Book.lent_any _ _ _ _ _ xs ⟨hxl, HX.out.2.below HP3.out.sw.bel⟩ (by omega)).mono ?_
          rintro e w4 ⟨gm, cm, rfl, hog, hb4⟩
          rw [hxl] at hog
          have HMO4 := Lib.hid hog
          have HP4 := Lib.hid (HP3.out.call hb4)
          have HO4 := Lib.hid (HO3.out.call hb4)
          have hgm : z1 + 1 ≤ gm := by have := (hog.lt gm rfl).1; omega
          have hx60 : n2 ≤ 60 := by omega
          rw [hxl]
          clear hog hb4 HP HP3 HO3 hs0 hs1 hz1
          obtain ⟨wo, rfl⟩ : ∃ wo : World, wo = wr := ⟨_, rfl⟩
          dsimp only
          go_wp2_with fail
          have hok := HP4.out.sw.sv.ok
          have HOK := Lib.hid hok
          clear hok
          go_loopw [15, 17] (fun wt i wx => ∃ (j q : Nat) (W1 : List Nat), j ≤ n2 ∧ i = .int .i64 (j : Int) ∧ wt = .int .i64 (q : Int) ∧ (W1, q) = runL n (decide (kind = 1)) W (xs.take j) ∧ q ≤ j ∧ (kind = 3 → j = 0) ∧ Ok n W1 ∧ SP w wx b g n W bi (has W1) bk bk S ∧
            Blk wx z1 #[.int .i64 kind, .slice A2 n2 c2] 46 ∧ wx.ownsRow w3.heap.size 3 1 (.slice (some ⟨gm, 0, none⟩) (n2 + 1) cm) (n2 + 1) (xs.map (.int .i64) ++ [.int .i64 (-77)])) (fun _ i _ => n2 - (intOf i).toNat)
          case atStart => exact ⟨0, 0, W, Nat.zero_le _, rfl, rfl, rfl, Nat.le_refl _, fun _ => rfl, HOK.out, HP4.out, HO4.out, HMO4.out⟩
          case round =>
            obtain ⟨j, q, W1, hj, rfl, rfl, hq, hqj, hk3j, ho1, hsp, hob, hmo⟩ := hrel
            have HQ := Lib.hid hq
            have HO1 := Lib.hid ho1
            have HSP := Lib.hid hsp
            have HOB := Lib.hid hob
            have HMO := Lib.hid hmo
            obtain ⟨o0, o1, of0, of1⟩ := hob.two
            have hwx := hsp.sw.bel.size
            clear hq ho1 hsp hob hmo HP4 HO4 HMO4
            by_cases hgo : kind ≠ 3 ∧ j < n2
            · as_aux_lemma => --ok
                obtain ⟨hk3, hjn⟩ := hgo
                have hjI : (j : Int) < (n2 : Int) := by omega
                have hjI0 : (0 : Int) ≤ (j : Int) := by omega
                obtain ⟨x2, hx2⟩ : ∃ x2, xs[j]? = some x2 := ⟨_, List.getElem?_eq_getElem (by omega)⟩
                obtain ⟨b2, o2, rfl, hb2, hc2⟩ := HX.out.at_ hx2
                have hc2' := (HSP.out.sw.bel.cell (p := ⟨b2, o2 + j, none⟩) hb2).trans hc2
                have HT := Lib.hid (runL_take (n := n) (on := decide (kind = 1)) (W := W) hx2)
                clear hx2 hc2
                have hbl := HSP.out.ib.lt
                have hzl := HOB.out.lt
                by_cases h0 : 0 ≤ x2
                · have hd0 : decide (0 ≤ x2) = true := by simpa using h0
                  by_cases h1 : x2 < (n : Int)
                  · obtain ⟨v, rfl⟩ : ∃ v : Nat, x2 = v := ⟨x2.toNat, by omega⟩
                    have hvn : v < n := by omega
                    have hd1 : decide ((v : Int) < (n : Int)) = true := by simpa using h1
                    obtain ⟨cv, fv⟩ := bcf_cell HSP.out.ib hvn
                    by_cases e1 : kind = 1
                    · by_cases ht : has W1 v = !(decide (kind = 1))
                      · have HE := Lib.hid (show (flip1 (decide (kind = 1)) W1 v, q + 1) = runL n (decide (kind = 1)) W (xs.take (j + 1)) from by
                          rw [HT.out, ← HQ.out]
                          unfold step1
                          rw [if_pos ⟨by omega, by omega, by rw [show (v : Int).toNat = v by omega]; exact ht⟩]
                          simp)
                        rw [ht] at cv
                        have HFO := Lib.hid (flip_ok HO1.out (decide (kind = 1)) hvn)
                        go_wp2_with fail
                        go_upto_region 21 with (fail)
                        refine Ext.region wr (by kernel_rfl) (by kernel_rfl) (Below.refl _ _) ?_
                        repeat (first | (go_big_quiet_step (fail)) | (rw [hd0]) | (rw [hd1]))
                        refine wpQuiet_nil ?_
                        rintro _ ⟨xq, rfl⟩
                        have HSP1 := Lib.hid (HSP.out.call xq.below)
                        have HOB1 := Lib.hid (HOB.out.call xq.below)
                        have HMO1 := Lib.hid (own_block HMO.out fun q e => xq.below.block q (HMO.out.lt q e).2)
                        have hfx := HSP1.out.ib
                        obtain ⟨p0, p1, pf0, pf1⟩ := HOB1.out.two
                        obtain ⟨cx, fx⟩ := bcf_cell hfx hvn
                        go_wp2_with fail
                        have HSP2 := Lib.hid (show SP w (xq.w.setCell ⟨bi, v, none⟩ (.bool true)) b g n W bi (has (flip1 (decide (kind = 1)) W1 v)) bk bk S from
                          (HSP1.out.row hw0 v true).congr (fun i _ => by rw [has_flip HO1.out (decide (kind = 1)) hvn i]; by_cases hi : i = v <;> simp [hi, e1]))
                        have hkk : Kept (fun i => i = bi) xq.w (xq.w.setCell ⟨bi, v, none⟩ (.bool true)) := (Kept.refl (fun i => i = bi) xq.w).set (p := ⟨bi, v, none⟩) (.inl rfl) _
                        have HOB2 := Lib.hid (hkk.blk HOB1.out (blk_ne HOB1.out hfx (by decide)))
                        have HMO2 := Lib.hid (hkk.own HMO1.out (fun q e e2 => by
                          have e : gm = q := by simpa [Value.ownBlock] using e
                          subst e; subst e2; omega))
                        exact ⟨⟨j + 1, q + 1, flip1 (decide (kind = 1)) W1 v, by omega, by go_num, by go_num, HE.out, by omega, fun e => absurd e hk3, HFO.out, HSP2.out, HOB2.out, HMO2.out⟩, by simp [intOf]; omega⟩
                      · have ht' : has W1 v = true := by simpa [e1] using ht
                        rw [ht'] at cv
                        have HE := Lib.hid (show (W1, q) = runL n (decide (kind = 1)) W (xs.take (j + 1)) from by
                          rw [HT.out, ← HQ.out]
                          unfold step1
                          rw [if_neg (by rintro ⟨_, _, h⟩; exact ht (by rw [show (v : Int).toNat = v by omega] at h; exact h))])
                        go_wp2_with fail
                        go_upto_region 21 with (fail)
                        refine Ext.region wr (by kernel_rfl) (by kernel_rfl) (Below.refl _ _) ?_
                        repeat (first | (go_big_quiet_step (fail)) | (rw [hd0]) | (rw [hd1]))
                        refine wpQuiet_nil ?_
                        rintro _ ⟨xq, rfl⟩
                        have HSP1 := Lib.hid (HSP.out.call xq.below)
                        have HOB1 := Lib.hid (HOB.out.call xq.below)
                        have HMO1 := Lib.hid (own_block HMO.out fun q e => xq.below.block q (HMO.out.lt q e).2)
                        have hfx := HSP1.out.ib
                        go_wp2_with fail
                        exact ⟨⟨j + 1, q, W1, by omega, by go_num, rfl, HE.out, by omega, fun e => absurd e hk3, HO1.out, HSP1.out, HOB1.out, HMO1.out⟩, by simp [intOf]; omega⟩
                    · have hk1 : (kind == 1) = false := by simpa using e1
                      have hk2 : (!(kind == 1)) = true := by rw [hk1]; rfl
                      by_cases ht : has W1 v = !(decide (kind = 1))
                      · have HE := Lib.hid (show (flip1 (decide (kind = 1)) W1 v, q + 1) = runL n (decide (kind = 1)) W (xs.take (j + 1)) from by
                          rw [HT.out, ← HQ.out]
                          unfold step1
                          rw [if_pos ⟨by omega, by omega, by rw [show (v : Int).toNat = v by omega]; exact ht⟩]
                          simp)
                        rw [ht] at cv
                        have HFO := Lib.hid (flip_ok HO1.out (decide (kind = 1)) hvn)
                        go_wp2_with fail
                        go_upto_region 21 with (fail)
                        refine Ext.region wr (by kernel_rfl) (by kernel_rfl) (Below.refl _ _) ?_
                        repeat (first | (go_big_quiet_step (fail)) | (rw [hd0]) | (rw [hd1]))
                        refine wpQuiet_nil ?_
                        rintro _ ⟨xq, rfl⟩
                        have HSP1 := Lib.hid (HSP.out.call xq.below)
                        have HOB1 := Lib.hid (HOB.out.call xq.below)
                        have HMO1 := Lib.hid (own_block HMO.out fun q e => xq.below.block q (HMO.out.lt q e).2)
                        have hfx := HSP1.out.ib
                        obtain ⟨p0, p1, pf0, pf1⟩ := HOB1.out.two
                        obtain ⟨cx, fx⟩ := bcf_cell hfx hvn
                        go_wp2_with fail
                        have HSP2 := Lib.hid (show SP w (xq.w.setCell ⟨bi, v, none⟩ (.bool false)) b g n W bi (has (flip1 (decide (kind = 1)) W1 v)) bk bk S from
                          (HSP1.out.row hw0 v false).congr (fun i _ => by rw [has_flip HO1.out (decide (kind = 1)) hvn i]; by_cases hi : i = v <;> simp [hi, e1]))
                        have hkk : Kept (fun i => i = bi) xq.w (xq.w.setCell ⟨bi, v, none⟩ (.bool false)) := (Kept.refl (fun i => i = bi) xq.w).set (p := ⟨bi, v, none⟩) (.inl rfl) _
                        have HOB2 := Lib.hid (hkk.blk HOB1.out (blk_ne HOB1.out hfx (by decide)))
                        have HMO2 := Lib.hid (hkk.own HMO1.out (fun q e e2 => by
                          have e : gm = q := by simpa [Value.ownBlock] using e
                          subst e; subst e2; omega))
                        exact ⟨⟨j + 1, q + 1, flip1 (decide (kind = 1)) W1 v, by omega, by go_num, by go_num, HE.out, by omega, fun e => absurd e hk3, HFO.out, HSP2.out, HOB2.out, HMO2.out⟩, by simp [intOf]; omega⟩
                      · have ht' : has W1 v = false := by simpa [e1] using ht
                        rw [ht'] at cv
                        have HE := Lib.hid (show (W1, q) = runL n (decide (kind = 1)) W (xs.take (j + 1)) from by
                          rw [HT.out, ← HQ.out]
                          unfold step1
                          rw [if_neg (by rintro ⟨_, _, h⟩; exact ht (by rw [show (v : Int).toNat = v by omega] at h; exact h))])
                        go_wp2_with fail
                        go_upto_region 21 with (fail)
                        refine Ext.region wr (by kernel_rfl) (by kernel_rfl) (Below.refl _ _) ?_
                        repeat (first | (go_big_quiet_step (fail)) | (rw [hd0]) | (rw [hd1]))
                        refine wpQuiet_nil ?_
                        rintro _ ⟨xq, rfl⟩
                        have HSP1 := Lib.hid (HSP.out.call xq.below)
                        have HOB1 := Lib.hid (HOB.out.call xq.below)
                        have HMO1 := Lib.hid (own_block HMO.out fun q e => xq.below.block q (HMO.out.lt q e).2)
                        have hfx := HSP1.out.ib
                        go_wp2_with fail
                        exact ⟨⟨j + 1, q, W1, by omega, by go_num, rfl, HE.out, by omega, fun e => absurd e hk3, HO1.out, HSP1.out, HOB1.out, HMO1.out⟩, by simp [intOf]; omega⟩
                  · have hd1 : decide (x2 < (n : Int)) = false := by simpa using h1
                    have HE := Lib.hid (show (W1, q) = runL n (decide (kind = 1)) W (xs.take (j + 1)) from by
                      rw [HT.out, ← HQ.out]
                      unfold step1
                      rw [if_neg (fun h => h1 h.2.1)])
                    go_wp2_with fail
                    go_upto_region 21 with (fail)
                    refine Ext.region wr (by kernel_rfl) (by kernel_rfl) (Below.refl _ _) ?_
                    repeat (first | (go_big_quiet_step (fail)) | (rw [hd0]) | (rw [hd1]))
                    refine wpQuiet_nil ?_
                    rintro _ ⟨xq, rfl⟩
                    have HSP1 := Lib.hid (HSP.out.call xq.below)
                    have HOB1 := Lib.hid (HOB.out.call xq.below)
                    have HMO1 := Lib.hid (own_block HMO.out fun q e => xq.below.block q (HMO.out.lt q e).2)
                    have hfx := HSP1.out.ib
                    go_wp2_with fail
                    exact ⟨⟨j + 1, q, W1, by omega, by go_num, rfl, HE.out, by omega, fun e => absurd e hk3, HO1.out, HSP1.out, HOB1.out, HMO1.out⟩, by simp [intOf]; omega⟩
                · have hd0 : decide (0 ≤ x2) = false := by simpa using h0
                  have h1 : x2 < 0 := by omega
                  have HE := Lib.hid (show (W1, q) = runL n (decide (kind = 1)) W (xs.take (j + 1)) from by
                    rw [HT.out, ← HQ.out]
                    unfold step1
                    rw [if_neg (fun h => h0 h.1)])
                  go_wp2_with fail
                  go_upto_region 21 with (fail)
                  refine Ext.region wr (by kernel_rfl) (by kernel_rfl) (Below.refl _ _) ?_
                  repeat (first | (go_big_quiet_step (fail)) | (rw [hd0]) )
                  refine wpQuiet_nil ?_
                  rintro _ ⟨xq, rfl⟩
                  have HSP1 := Lib.hid (HSP.out.call xq.below)
                  have HOB1 := Lib.hid (HOB.out.call xq.below)
                  have HMO1 := Lib.hid (own_block HMO.out fun q e => xq.below.block q (HMO.out.lt q e).2)
                  have hfx := HSP1.out.ib
                  go_wp2_with fail
                  exact ⟨⟨j + 1, q, W1, by omega, by go_num, rfl, HE.out, by omega, fun e => absurd e hk3, HO1.out, HSP1.out, HOB1.out, HMO1.out⟩, by simp [intOf]; omega⟩
            · have hend : (kind = 3 ∧ W1 = W ∧ q = 0) ∨ (kind ≠ 3 ∧ (W1, q) = runL n (decide (kind = 1)) W xs) := by
                by_cases hk3 : kind = 3
                · have hj0 := hk3j hk3
                  subst hj0
                  have h := HQ.out
                  rw [List.take_zero] at h
                  injection h with h1 h2
                  exact .inl ⟨hk3, h1, h2⟩
                · have hjn : j = n2 := by
                    by_cases h : j < n2
                    · exact absurd ⟨hk3, h⟩ hgo
                    · omega
                  have h := HQ.out
                  rw [List.take_of_length_le (by omega)] at h
                  exact .inr ⟨hk3, h⟩
              have HEND := Lib.hid hend
              have hcase : kind = 3 ∨ (kind ≠ 3 ∧ ¬ j < n2) := by
                by_cases hk3 : kind = 3
                · exact .inl hk3
                · exact .inr ⟨hk3, fun h => hgo ⟨hk3, h⟩⟩
              clear hend HQ hgo hk3j
              go_upto_region 18 with (fail)
              go_cut [75] from 66 to 75 (fun p wx => p = .bool false ∧ wx = wr)
              case first =>
                rcases hcase with hk3 | ⟨hk3, hjn⟩
                · subst hk3
                  by_cases hj1 : j < n2
                  · have hjI : (j : Int) < (n2 : Int) := by omega
                    go_wp2_with fail
                    go_meet
                    exact ⟨rfl, rfl⟩
                  · have hjI : ¬ (j : Int) < (n2 : Int) := by omega
                    go_wp2_with fail
                    go_meet
                    exact ⟨rfl, rfl⟩
                · have hjI : ¬ (j : Int) < (n2 : Int) := by omega
                  clear hjn hj hqj hk3
                  go_wp2_with fail
                  go_meet
                  exact ⟨rfl, rfl⟩
              case rest =>
                obtain ⟨rfl, rfl⟩ := hcut
                clear hcase
                have hgmw := HMO.out.lt gm rfl
                have hgml : n2 + 1 ≤ cm ∧ cm ≤ maxLen := by
                  rcases HMO.out.2 with ⟨h1, _⟩ | ⟨g', cap, cur, h1, _, _, h2, h3, _⟩
                  · injection h1 with h1; cases h1
                  · injection h1 with _ _ h1; subst h1; exact ⟨h2, h3⟩
                have HRM := Lib.hid (fun (W' : World) (h : W'.heap.size ≥ gm + 1) (ho : W'.ownsRow w3.heap.size 3 1 (.slice (some ⟨gm, 0, none⟩) (n2 + 1) cm) (n2 + 1) (xs.map (.int .i64) ++ [.int .i64 (-77)])) =>
                  (⟨hxl, by omega, hgml.2, by simpa using hxl, fun _ => ⟨gm, 0, rfl, by omega, fun j u hu => by
                    have := ho.cells (g := gm) rfl j u (by rw [List.getElem?_append_left (by have := (List.getElem?_eq_some_iff.1 hu).1; exact this)]; exact hu)
                    rwa [add_form] at this⟩⟩ : Book.RI W' (gm + 1) (some ⟨gm, 0, none⟩) n2 cm xs))
                have hgg : gm ≠ g := by omega
                have HMK2 := HMK
                have HZ := Lib.hid (zero_ok (n := n) (show n ≤ 4096 by omega))
                clear hj hqj
                go_upto_block 4 with (fail)
                go_cut [10, 16] from 110 to 123 (fun iv gt wx => ∃ (W2 : List Nat) (bi2 : Nat), iv = .slice (some ⟨bi2, 0, none⟩) n n ∧ gt = .int .i64 (q : Int) ∧ SP w wx b g n W2 bi2 (has W2) bk bk S ∧
                  Blk wx z1 #[.int .i64 kind, .slice A2 n2 c2] 46 ∧ wx.ownsRow w3.heap.size 3 1 (.slice (some ⟨gm, 0, none⟩) (n2 + 1) cm) (n2 + 1) (xs.map (.int .i64) ++ [.int .i64 (-77)]))
                case first =>
                  as_aux_lemma => --ok
                    by_cases e1 : kind = 1
                    · have hfin : runL n true W xs = (W1, q) := by
                        rcases HEND.out with ⟨h, _⟩ | ⟨_, h⟩
                        · omega
                        · rw [show decide (kind = 1) = true by simpa using e1] at h; exact h.symm
                      have HFIN := Lib.hid hfin
                      clear hfin HEND
                      subst e1
                      go_wp2_with fail
                      refine (put_any b g n W (some ⟨gm, 0, none⟩) n2 cm (gm + 1) xs _ HSP.out.sw.sv (HRM.out _ (by omega) HMO.out).2 (by omega) (fun _ a e => by injection e with e; subst e; exact hgg) HXW.out (by omega)).mono ?_
                      rw [HFIN.out]
                      rintro e w6 ⟨rfl, hs6, hk6⟩
                      have H6 := Lib.hid (HSP.out.sieve hw0 hs6 hk6)
                      have HO6 := Lib.hid (hk6.blk HOB.out (by omega))
                      have HM6 := Lib.hid (hk6.own HMO.out (fun q e => by
                        have e : gm = q := by simpa [Value.ownBlock] using e
                        subst e; exact hgg))
                      clear hs6 hk6
                      dsimp only
                      go_wp2_with fail
                      go_meet
                      exact ⟨W1, bi, rfl, by go_num, H6.out, HO6.out, HM6.out⟩
                    · by_cases e3 : kind = 3
                      · have hfin : W1 = W ∧ q = 0 := by
                          rcases HEND.out with ⟨_, h⟩ | ⟨h, _⟩
                          · exact h
                          · exact absurd e3 h
                        obtain ⟨rfl, rfl⟩ := hfin
                        clear HEND e1
                        subst e3
                        go_wp2_with fail
                        refine (clear_any b g n W1 _ HSP.out.sw.sv).mono ?_
                        rintro e w6 ⟨rfl, hs6, hk6⟩
                        have H6 := Lib.hid (HSP.out.sieve hw0 hs6 hk6)
                        have HO6 := Lib.hid (hk6.blk HOB.out (by omega))
                        have HM6 := Lib.hid (hk6.own HMO.out (fun q e => by
                          have e : gm = q := by simpa [Value.ownBlock] using e
                          subst e; exact hgg))
                        clear hs6 hk6
                        dsimp only
                        have H7 := Lib.hid ((H6.out.call ((Below.refl _ _).alloc (Nat.le_refl _) (.cells (bcf n fun _ => false) 4))).other (bi' := w6.heap.size) (f' := has (List.replicate ((n + 63) / 64) 0)) ((Blk.new w6 _ _).of_eq (bcf_congr fun i _ => (zero_has _ i).symm)) H6.out.sw.bel.size (fun k hk => by
                          have := H6.out.book.1 k hk
                          omega))
                        have HO7 := Lib.hid (HO6.out.alloc (.cells (bcf n fun _ => false) 4))
                        have HM7 := Lib.hid (HM6.out.alloc (.cells (bcf n fun _ => false) 4))
                        go_wp2_with (simp only [HMK2.out])
                        go_meet
                        exact ⟨_, w6.heap.size, rfl, by go_num, H7.out, HO7.out, HM7.out⟩
                      · have hfin : runL n false W xs = (W1, q) := by
                          rcases HEND.out with ⟨h, _⟩ | ⟨_, h⟩
                          · exact absurd h e3
                          · rw [show decide (kind = 1) = false by simpa using e1] at h; exact h.symm
                        have HFIN := Lib.hid hfin
                        clear hfin
                        go_wp2_with fail
                        refine (cut_any b g n W (some ⟨gm, 0, none⟩) n2 cm (gm + 1) xs _ HSP.out.sw.sv (HRM.out _ (by omega) HMO.out).2 (by omega) (fun _ a e => by injection e with e; subst e; exact hgg) HXW.out (by omega)).mono ?_
                        rw [HFIN.out]
                        rintro e w6 ⟨rfl, hs6, hk6⟩
                        have H6 := Lib.hid (HSP.out.sieve hw0 hs6 hk6)
                        have HO6 := Lib.hid (hk6.blk HOB.out (by omega))
                        have HM6 := Lib.hid (hk6.own HMO.out (fun q e => by
                          have e : gm = q := by simpa [Value.ownBlock] using e
                          subst e; exact hgg))
                        clear hs6 hk6
                        dsimp only
                        go_wp2_with fail
                        go_meet
                        exact ⟨W1, bi, rfl, by go_num, H6.out, HO6.out, HM6.out⟩
                case rest =>
                  obtain ⟨W2, bi2, rfl, rfl, hsp2, hob2, hmo2⟩ := hcut
                  have HSP2 := Lib.hid hsp2
                  have HOB2 := Lib.hid hob2
                  have HMO2 := Lib.hid hmo2
                  clear hsp2 hob2 hmo2 HSP HOB HMO HEND HZ HMK2 o0 o1 of0 of1
                  obtain ⟨wo2, rfl⟩ : ∃ wo2 : World, wo2 = wc := ⟨_, rfl⟩
                  go_wp2_with fail
                  go_loopw [19, 20, 21, 22, 23] (fun al nx gp wd i wx => ∃ (v : Nat) (aA : Option Addr) (cA : Nat) (rn rg : Int) (y : Nat), v ≤ n ∧ i = .int .i64 (v : Int) ∧ al = .slice aA (sl v (has W2)).length cA ∧ nx = .int .i64 rn ∧ gp = .int .i64 rg ∧ wd = .int .u64 (y : Int) ∧
                    Far (has W2) fr v rn ∧ Far (gapP n W2) fr v rg ∧ Bits (has W2) kk v y ∧ Below wo2.heap.size wo2 wx ∧ wx.ownsRow wo2.heap.size 3 1 (.slice aA (sl v (has W2)).length cA) (sl v (has W2)).length (nats (sl v (has W2)))) (fun _ _ _ _ i _ => n - (intOf i).toNat)
                  case atStart => exact ⟨0, none, 0, -1, -1, 0, Nat.zero_le _, rfl, rfl, rfl, rfl, rfl, Far.start _ _, Far.start _ _, Bits.start _ _, Below.refl _ _, World.ownsRow_nil _ _ _ _⟩
                  case round =>
                    obtain ⟨v, aA, cA, rn, rg, y, hv, rfl, rfl, rfl, rfl, rfl, hfn, hfg, hby, hbe, hal⟩ := hrel
                    have HFN := Lib.hid hfn
                    have HFG := Lib.hid hfg
                    have HBY := Lib.hid hby
                    have HBE := Lib.hid hbe
                    have HAL := Lib.hid hal
                    have hzz := hbe.size
                    have hll : (sl v (has W2)).length ≤ 600 := by have := sl_len v (has W2); omega
                    clear hfn hfg hby hbe hal
                    by_cases hvn : v < n
                    · as_aux_lemma => --ok
                        have hvI : (v : Int) < (n : Int) := by omega
                        have hvI0 : (0 : Int) ≤ (v : Int) := by omega
                        have HI2 := Lib.hid ((HSP2.out.ib.call HBE.out))
                        obtain ⟨cv, fv⟩ := bcf_cell HI2.out hvn
                        have HSS := Lib.hid (Bit.sl_succ v (has W2))
                        cases hhv : has W2 v
                        · rw [hhv] at cv HSS
                          have hgv : gapP n W2 v = true := by unfold gapP; simp [hvn, hhv]
                          have HSS2 := Lib.hid (show sl (v + 1) (has W2) = sl v (has W2) from by rw [HSS.out]; simp)
                          have HN := Lib.hid (HFN.out.skip (.inl hhv))
                          have HY := Lib.hid (HBY.out.skip (.inl hhv))
                          by_cases h1 : rg < 0
                          · by_cases h2 : fr ≤ (v : Int)
                            · have HG := Lib.hid (HFG.out.found h1 h2 hgv)
                              clear hhv hgv
                              go_wp2_with fail
                              exact ⟨⟨v + 1, aA, cA, rn, (v : Int), y, by omega, by go_num, by rw [HSS2.out], rfl, rfl, rfl, HN.out, HG.out, HY.out, HBE.out, by rw [HSS2.out]; exact HAL.out⟩, by simp [intOf]; omega⟩
                            · have HG := Lib.hid (HFG.out.skip (.inr (.inl (by omega))))
                              clear hhv hgv
                              go_wp2_with fail
                              exact ⟨⟨v + 1, aA, cA, rn, rg, y, by omega, by go_num, by rw [HSS2.out], rfl, rfl, rfl, HN.out, HG.out, HY.out, HBE.out, by rw [HSS2.out]; exact HAL.out⟩, by simp [intOf]; omega⟩
                          · have HG := Lib.hid (HFG.out.skip (.inr (.inr (by omega))))
                            clear hhv hgv
                            go_wp2_with fail
                            exact ⟨⟨v + 1, aA, cA, rn, rg, y, by omega, by go_num, by rw [HSS2.out], rfl, rfl, rfl, HN.out, HG.out, HY.out, HBE.out, by rw [HSS2.out]; exact HAL.out⟩, by simp [intOf]; omega⟩
                        · rw [hhv] at cv HSS
                          have hgv : gapP n W2 v = false := by unfold gapP; simp [hhv]
                          have HG := Lib.hid (HFG.out.skip (.inl hgv))
                          have HFN2 := Lib.hid (fun h1 h2 => HFN.out.found h1 h2 hhv)
                          have HBY2 := Lib.hid (fun h1 h2 => HBY.out.put hhv h1 h2)
                          have hv6 : v ≤ 600 := by omega
                          clear hhv hgv
                          go_wp2_with (first
                            | (at_builtin; go_loud (refine wpList_app _ rfl _ _ 26 rfl wo2.heap.size 3 HI.out.choose (.int .i64 0) 1 8 Tryd.underlying26 HI.out.choose_spec.1 HI.out.choose_spec.2.1 HI.out.choose_spec.2.2.1 HI.out.choose_spec.2.2.2 rfl (by decide) _ _ _ rfl (HAL.out.alloc _) (wr.heap.size + 1) _ 1 1 [.int .i64 (v : Int)] rfl (Blk.reads (Blk.new wr _ _) (by simp) rfl rfl (by decide)) ?g1 ?g2 ?g3 ?g4 ?_))
                            | fail)
                          case g1 => first | rfl | (intro u hu; simp at hu; subst hu; rfl)
                          case g2 => first | omega | (unfold maxLen; omega)
                          case g3 => omega
                          case g4 => first | omega | (simp; omega)
                          intro a' c' w2 ho2 hg2 hat2
                          have HAL2 := Lib.hid (show w2.ownsRow wo2.heap.size 3 1 (.slice a' (sl (v + 1) (has W2)).length c') (sl (v + 1) (has W2)).length (nats (sl (v + 1) (has W2))) from by
                            rw [HSS.out]
                            simpa [nats, ints] using ho2)
                          have HW2 := Lib.hid (show Below wo2.heap.size wo2 w2 from (fresh_alloc HBE.out _).grown hg2 (by simp; omega) (fun k hk => (HAL.out.lt k hk).1))
                          have hll2 : (sl v (has W2)).length + 1 = (sl (v + 1) (has W2)).length := by rw [HSS.out]; simp
                          rw [hll2]
                          have HP2 := Lib.hid (pow_int (Nat.mod_lt v (show 0 < 64 by omega)))
                          clear ho2 hg2 hat2 hll2
                          by_cases h1 : rn < 0
                          · by_cases h2 : fr ≤ (v : Int)
                            · have HN := Lib.hid (HFN2.out h1 h2)
                              by_cases k1 : kk < 0
                              · have HY := Lib.hid (HBY.out.skip (.inr (.inl k1)))
                                go_wp2_with fail
                                exact ⟨⟨v + 1, a', c', (v : Int), rg, y, by omega, by go_num, rfl, rfl, rfl, by go_num, HN.out, HG.out, HY.out, HW2.out, HAL2.out⟩, by simp [intOf]; omega⟩
                              · have k0 : 0 ≤ kk := by omega
                                by_cases k2 : (v : Int) / 64 = kk
                                · have HY := Lib.hid (HBY2.out k0 (by omega))
                                  have HOR := Lib.hid (or_pow y (v % 64) HBY.out.1 (Nat.mod_lt v (show 0 < 64 by omega)))
                                  go_wp2_with fail
                                  exact ⟨⟨v + 1, a', c', (v : Int), rg, y ||| 2 ^ (v % 64), by omega, by go_num, rfl, rfl, rfl, by rw [HP2.out, show ((2 ^ (v % 64) : Nat) : Int) = (2 : Int) ^ (v % 64) by simp, HOR.out], HN.out, HG.out, HY.out, HW2.out, HAL2.out⟩, by simp [intOf]; omega⟩
                                · have HY := Lib.hid (HBY.out.skip (.inr (.inr (by omega))))
                                  go_wp2_with fail
                                  exact ⟨⟨v + 1, a', c', (v : Int), rg, y, by omega, by go_num, rfl, rfl, rfl, by go_num, HN.out, HG.out, HY.out, HW2.out, HAL2.out⟩, by simp [intOf]; omega⟩
                            · have HN := Lib.hid (HFN.out.skip (.inr (.inl (by omega))))
                              by_cases k1 : kk < 0
                              · have HY := Lib.hid (HBY.out.skip (.inr (.inl k1)))
                                go_wp2_with fail
                                exact ⟨⟨v + 1, a', c', rn, rg, y, by omega, by go_num, rfl, rfl, rfl, by go_num, HN.out, HG.out, HY.out, HW2.out, HAL2.out⟩, by simp [intOf]; omega⟩
                              · have k0 : 0 ≤ kk := by omega
                                by_cases k2 : (v : Int) / 64 = kk
                                · have HY := Lib.hid (HBY2.out k0 (by omega))
                                  have HOR := Lib.hid (or_pow y (v % 64) HBY.out.1 (Nat.mod_lt v (show 0 < 64 by omega)))
                                  go_wp2_with fail
                                  exact ⟨⟨v + 1, a', c', rn, rg, y ||| 2 ^ (v % 64), by omega, by go_num, rfl, rfl, rfl, by rw [HP2.out, show ((2 ^ (v % 64) : Nat) : Int) = (2 : Int) ^ (v % 64) by simp, HOR.out], HN.out, HG.out, HY.out, HW2.out, HAL2.out⟩, by simp [intOf]; omega⟩
                                · have HY := Lib.hid (HBY.out.skip (.inr (.inr (by omega))))
                                  go_wp2_with fail
                                  exact ⟨⟨v + 1, a', c', rn, rg, y, by omega, by go_num, rfl, rfl, rfl, by go_num, HN.out, HG.out, HY.out, HW2.out, HAL2.out⟩, by simp [intOf]; omega⟩
                          · have HN := Lib.hid (HFN.out.skip (.inr (.inr (by omega))))
                            by_cases k1 : kk < 0
                            · have HY := Lib.hid (HBY.out.skip (.inr (.inl k1)))
                              go_wp2_with fail
                              exact ⟨⟨v + 1, a', c', rn, rg, y, by omega, by go_num, rfl, rfl, rfl, by go_num, HN.out, HG.out, HY.out, HW2.out, HAL2.out⟩, by simp [intOf]; omega⟩
                            · have k0 : 0 ≤ kk := by omega
                              by_cases k2 : (v : Int) / 64 = kk
                              · have HY := Lib.hid (HBY2.out k0 (by omega))
                                have HOR := Lib.hid (or_pow y (v % 64) HBY.out.1 (Nat.mod_lt v (show 0 < 64 by omega)))
                                go_wp2_with fail
                                exact ⟨⟨v + 1, a', c', rn, rg, y ||| 2 ^ (v % 64), by omega, by go_num, rfl, rfl, rfl, by rw [HP2.out, show ((2 ^ (v % 64) : Nat) : Int) = (2 : Int) ^ (v % 64) by simp, HOR.out], HN.out, HG.out, HY.out, HW2.out, HAL2.out⟩, by simp [intOf]; omega⟩
                              · have HY := Lib.hid (HBY.out.skip (.inr (.inr (by omega))))
                                go_wp2_with fail
                                exact ⟨⟨v + 1, a', c', rn, rg, y, by omega, by go_num, rfl, rfl, rfl, by go_num, HN.out, HG.out, HY.out, HW2.out, HAL2.out⟩, by simp [intOf]; omega⟩
                    · obtain rfl : v = n := by omega
                      have hvI : ¬ (v : Int) < (v : Int) := by omega
                      have HX1 := Lib.hid (HSP2.out.call HBE.out)
                      have HO1 := Lib.hid (HOB2.out.call HBE.out)
                      have HM1 := Lib.hid (own_block HMO2.out fun q e => HBE.out.block q (HMO2.out.lt q e).2)
                      have hok := HX1.out.sw.sv.ok
                      have HNX := Lib.hid (HFN.out.done HF.out (fun j hj => by
                        cases e : has W2 j
                        · rfl
                        · have := hok.inn j e; omega))
                      have HGP := Lib.hid (HFG.out.done HF.out (fun j hj => by unfold gapP; simp; omega))
                      have HWD := Lib.hid (HBY.out.done hok (Nat.le_refl _))
                      have HCN := Lib.hid (cnt_sl hok)
                      have hz1o := HOB2.out.lt
                      have HALL := Lib.hid (all_any b g v W2 _ HX1.out.sw.sv HX1.out.sw.tab)
                      clear hok HFN HFG HBY HSP2 HOB2 HMO2
                      have hll6 : (sl v (has W2)).length ≤ 600 := by have := sl_len v (has W2); omega
                      generalize sl v (has W2) = L at *
                      have hbx := HX1.out.sw.sv.blk.lt
                      have hgx := HX1.out.sw.sv.row.lt
                      have hix := HX1.out.ib.lt
                      have hwx2 := HX1.out.sw.bel.size
                      have hox := HO1.out.lt
                      have hmx := HM1.out.lt gm rfl
                      go_wp2_with fail
                      refine HALL.out.mono ?_
                      rintro e w5 ⟨a5, c5, rfl, ho5, hb5⟩
                      have H5 := Lib.hid (HX1.out.call hb5)
                      have HO5 := Lib.hid (HO1.out.call hb5)
                      have HM5 := Lib.hid (own_block HM1.out fun q e => hb5.block q (HM1.out.lt q e).2)
                      have HL5 := Lib.hid (own_block HAL.out fun q e => hb5.block q (HAL.out.lt q e).2)
                      have HS5 := Lib.hid ho5
                      have HBK := Lib.hid (Book.BookIn.ints (A := a5) (c := c5) (xs := ints L) HX1.out.book HX1.out.zz hb5 (by rw [ints_len]; exact ho5) (by rw [ints_len]; omega))
                      rw [ints_len] at HBK
                      have hw25 := hb5.size
                      have hwo2 := HBE.out.size
                      clear ho5 hb5
                      dsimp only
                      go_wp2_with fail
                      refine HBK.out.mono ?_
                      rintro e w6 ⟨rfl, hk6, hki6, S', hbk6, hS'⟩
                      have hnz : ∀ q, wo2.heap.size ≤ q ∨ q = z1 ∨ q = gm → q < wr.heap.size → ¬ (S q ∨ wr.heap.size ≤ q) := by
                        rintro q hq hq2 (h | h)
                        · have := HSZ.out q h
                          omega
                        · omega
                      have H6 := Lib.hid (H5.out.told hw0 hk6 ⟨hbx, hgx, hix, hwx2⟩ hbk6 hS')
                      have HO6 := Lib.hid (hk6.blk HO5.out (hnz z1 (.inr (.inl rfl)) hox))
                      have HM6 := Lib.hid (hk6.own HM5.out (fun q e => by
                        have e : gm = q := by simpa [Value.ownBlock] using e
                        subst e; exact hnz gm (.inr (.inr rfl)) hmx.2))
                      have HRA := Lib.hid (show Book.RI w6 w6.heap.size a5 L.length c5 (ints L) from ⟨ints_len _, Reads.of_own (hki6 _ _ _ _ HS5.out)⟩)
                      have HRB := Lib.hid (show Book.RI w6 w6.heap.size aA L.length cA (ints L) from ⟨ints_len _, Reads.of_own (hki6 _ _ _ _ HL5.out)⟩)
                      clear hk6 hki6 hbk6 hS' hnz HBK HALL
                      dsimp only
                      have hsv := H6.out.sw.sv
                      by_cases hf0 : fr < 0
                      · have HHF := Lib.hid (hasI_out hsv (k := fr) (by omega))
                        clear hsv
                        go_wp2_with fail
                        refine (Book.same_yes _ HRA.out HRB.out).mono ?_
                        rintro e w7 ⟨rfl, d7, rfl⟩
                        have H7 := Lib.hid (H6.out.drewN d7)
                        dsimp only
                        go_wp2_with fail
                        refine (count_any b g v W2 _ H7.out.sw.sv).mono ?_
                        rw [HCN.out]
                        rintro e w8 ⟨rfl, d8, rfl⟩
                        have H8 := Lib.hid (H6.out.drewN (d7 + d8))
                        dsimp only
                        go_wp2_with fail
                        refine (next_any b g v W2 fr f HF.out HFR.out _ H8.out.sw.sv H8.out.sw.tab).mono ?_
                        rintro e w9 ⟨r9, rfl, hr9, rfl⟩
                        obtain rfl := hr9.uniq HNX.out
                        dsimp only
                        go_wp2_with fail
                        refine (gap_any b g v W2 fr f HF.out HFR.out _ H8.out.sw.sv H8.out.sw.tab).mono ?_
                        rintro e w9 ⟨r10, rfl, hr10, hb9⟩
                        obtain rfl := hr10.uniq HGP.out
                        have H9 := Lib.hid (H8.out.call hb9)
                        clear hr9 hr10
                        dsimp only
                        go_wp2_with fail
                        refine (word_any b g v W2 kk _ H9.out.sw.sv).mono ?_
                        rw [← HWD.out]
                        rintro e w10 ⟨rfl, rfl⟩
                        dsimp only
                        go_wp2_with fail
                        refine (has_any b g v W2 fr _ H9.out.sw.sv).mono ?_
                        rw [HHF.out]
                        rintro e w10 ⟨rfl, hb10⟩
                        have H10 := Lib.hid (H9.out.call hb10)
                        have HK := Lib.hid (show Below w6.heap.size w6 w10 from fresh_call (fresh_call (below_drewN (Below.refl _ _) (d7 + d8)) hb9) hb10)
                        have HM10 := Lib.hid (own_block HM6.out fun q e => HK.out.block q (HM6.out.lt q e).2)
                        have HO10 := Lib.hid (HO6.out.call HK.out)
                        obtain ⟨t0, t1, tf0, tf1⟩ := HO10.out.two
                        have hi10 := H10.out.ib
                        have hgl := (HM10.out.lt gm rfl).2
                        have HMK := Lib.hid (show w10.cell? ⟨gm, 0 + n2, none⟩ = some (.int .i64 (-77)) from by
                          have := HM10.out.cells (g := gm) rfl n2 (.int .i64 (-77)) (by simp [hxl])
                          rwa [add_form] at this)
                        have HXL := Lib.hid (show Book.RI w10 w.heap.size A2 n2 c2 xs from ⟨hxl, HX.out.2.below H10.out.sw.bel⟩)
                        clear hb9 hb10
                        have hq0 : fr < 0 := hf0
                        dsimp only
                        go_wp2_with fail
                        refine (Book.stays_any _ gm 0 n2 cm _ A2 n2 c2 xs xs (.inr (HRM.out _ (by omega) HM10.out)) HXL.out hgml.1 hgml.2 HMK.out).mono ?_
                        rw [show decide (xs = xs) = true by simp]
                        rintro e w11 ⟨rfl, d11, rfl⟩
                        have H11 := Lib.hid (H10.out.drewN d11)
                        dsimp only
                        go_wp2_with fail
                        go_roundw
                        case rel => exact ⟨k + 1, W2, bi2, S', by omega, by go_num, rfl, H11.out⟩
                        case measure => simp [intOf]; omega
                      · have hf1 : 0 ≤ fr := by omega
                        by_cases hf2 : fr < (v : Int)
                        · have hun : fr.toNat < v := by omega
                          obtain ⟨tt, htt⟩ : ∃ tt, has W2 fr.toNat = tt := ⟨_, rfl⟩
                          have HHF := Lib.hid (show hasI W2 fr = tt from by unfold hasI; rw [htt]; simp [hf1])
                          have HTT := Lib.hid htt
                          clear hsv htt hf0
                          cases tt
                          all_goals
                            go_wp2_with fail
                            refine (Book.same_yes _ HRA.out HRB.out).mono ?_
                            rintro e w7 ⟨rfl, d7, rfl⟩
                            have H7 := Lib.hid (H6.out.drewN d7)
                            dsimp only
                            go_wp2_with fail
                            refine (count_any b g v W2 _ H7.out.sw.sv).mono ?_
                            rw [HCN.out]
                            rintro e w8 ⟨rfl, d8, rfl⟩
                            have H8 := Lib.hid (H6.out.drewN (d7 + d8))
                            dsimp only
                            go_wp2_with fail
                            refine (next_any b g v W2 fr f HF.out HFR.out _ H8.out.sw.sv H8.out.sw.tab).mono ?_
                            rintro e w9 ⟨r9, rfl, hr9, rfl⟩
                            obtain rfl := hr9.uniq HNX.out
                            dsimp only
                            go_wp2_with fail
                            refine (gap_any b g v W2 fr f HF.out HFR.out _ H8.out.sw.sv H8.out.sw.tab).mono ?_
                            rintro e w9 ⟨r10, rfl, hr10, hb9⟩
                            obtain rfl := hr10.uniq HGP.out
                            have H9 := Lib.hid (H8.out.call hb9)
                            clear hr9 hr10
                            dsimp only
                            go_wp2_with fail
                            refine (word_any b g v W2 kk _ H9.out.sw.sv).mono ?_
                            rw [← HWD.out]
                            rintro e w10 ⟨rfl, rfl⟩
                            dsimp only
                            go_wp2_with fail
                            refine (has_any b g v W2 fr _ H9.out.sw.sv).mono ?_
                            rw [HHF.out]
                            rintro e w10 ⟨rfl, hb10⟩
                            have H10 := Lib.hid (H9.out.call hb10)
                            have HK := Lib.hid (show Below w6.heap.size w6 w10 from fresh_call (fresh_call (below_drewN (Below.refl _ _) (d7 + d8)) hb9) hb10)
                            have HM10 := Lib.hid (own_block HM6.out fun q e => HK.out.block q (HM6.out.lt q e).2)
                            have HO10 := Lib.hid (HO6.out.call HK.out)
                            obtain ⟨t0, t1, tf0, tf1⟩ := HO10.out.two
                            have hi10 := H10.out.ib
                            have hgl := (HM10.out.lt gm rfl).2
                            have HMK := Lib.hid (show w10.cell? ⟨gm, 0 + n2, none⟩ = some (.int .i64 (-77)) from by
                              have := HM10.out.cells (g := gm) rfl n2 (.int .i64 (-77)) (by simp [hxl])
                              rwa [add_form] at this)
                            have HXL := Lib.hid (show Book.RI w10 w.heap.size A2 n2 c2 xs from ⟨hxl, HX.out.2.below H10.out.sw.bel⟩)
                            clear hb9 hb10
                            obtain ⟨ci, fi⟩ := bcf_cell hi10 hun
                            rw [HTT.out] at ci
                            dsimp only
                            go_wp2_with fail
                            refine (Book.stays_any _ gm 0 n2 cm _ A2 n2 c2 xs xs (.inr (HRM.out _ (by omega) HM10.out)) HXL.out hgml.1 hgml.2 HMK.out).mono ?_
                            rw [show decide (xs = xs) = true by simp]
                            rintro e w11 ⟨rfl, d11, rfl⟩
                            have H11 := Lib.hid (H10.out.drewN d11)
                            dsimp only
                            go_wp2_with fail
                            go_roundw
                            case rel => exact ⟨k + 1, W2, bi2, S', by omega, by go_num, rfl, H11.out⟩
                            case measure => simp [intOf]; omega
                        · have HHF := Lib.hid (hasI_out hsv (k := fr) (by omega))
                          clear hsv
                          go_wp2_with fail
                          refine (Book.same_yes _ HRA.out HRB.out).mono ?_
                          rintro e w7 ⟨rfl, d7, rfl⟩
                          have H7 := Lib.hid (H6.out.drewN d7)
                          dsimp only
                          go_wp2_with fail
                          refine (count_any b g v W2 _ H7.out.sw.sv).mono ?_
                          rw [HCN.out]
                          rintro e w8 ⟨rfl, d8, rfl⟩
                          have H8 := Lib.hid (H6.out.drewN (d7 + d8))
                          dsimp only
                          go_wp2_with fail
                          refine (next_any b g v W2 fr f HF.out HFR.out _ H8.out.sw.sv H8.out.sw.tab).mono ?_
                          rintro e w9 ⟨r9, rfl, hr9, rfl⟩
                          obtain rfl := hr9.uniq HNX.out
                          dsimp only
                          go_wp2_with fail
                          refine (gap_any b g v W2 fr f HF.out HFR.out _ H8.out.sw.sv H8.out.sw.tab).mono ?_
                          rintro e w9 ⟨r10, rfl, hr10, hb9⟩
                          obtain rfl := hr10.uniq HGP.out
                          have H9 := Lib.hid (H8.out.call hb9)
                          clear hr9 hr10
                          dsimp only
                          go_wp2_with fail
                          refine (word_any b g v W2 kk _ H9.out.sw.sv).mono ?_
                          rw [← HWD.out]
                          rintro e w10 ⟨rfl, rfl⟩
                          dsimp only
                          go_wp2_with fail
                          refine (has_any b g v W2 fr _ H9.out.sw.sv).mono ?_
                          rw [HHF.out]
                          rintro e w10 ⟨rfl, hb10⟩
                          have H10 := Lib.hid (H9.out.call hb10)
                          have HK := Lib.hid (show Below w6.heap.size w6 w10 from fresh_call (fresh_call (below_drewN (Below.refl _ _) (d7 + d8)) hb9) hb10)
                          have HM10 := Lib.hid (own_block HM6.out fun q e => HK.out.block q (HM6.out.lt q e).2)
                          have HO10 := Lib.hid (HO6.out.call HK.out)
                          obtain ⟨t0, t1, tf0, tf1⟩ := HO10.out.two
                          have hi10 := H10.out.ib
                          have hgl := (HM10.out.lt gm rfl).2
                          have HMK := Lib.hid (show w10.cell? ⟨gm, 0 + n2, none⟩ = some (.int .i64 (-77)) from by
                            have := HM10.out.cells (g := gm) rfl n2 (.int .i64 (-77)) (by simp [hxl])
                            rwa [add_form] at this)
                          have HXL := Lib.hid (show Book.RI w10 w.heap.size A2 n2 c2 xs from ⟨hxl, HX.out.2.below H10.out.sw.bel⟩)
                          clear hb9 hb10
                          have hq1 : (v : Int) ≤ fr := by omega
                          dsimp only
                          go_wp2_with fail
                          refine (Book.stays_any _ gm 0 n2 cm _ A2 n2 c2 xs xs (.inr (HRM.out _ (by omega) HM10.out)) HXL.out hgml.1 hgml.2 HMK.out).mono ?_
                          rw [show decide (xs = xs) = true by simp]
                          rintro e w11 ⟨rfl, d11, rfl⟩
                          have H11 := Lib.hid (H10.out.drewN d11)
                          dsimp only
                          go_wp2_with fail
                          go_roundw
                          case rel => exact ⟨k + 1, W2, bi2, S', by omega, by go_num, rfl, H11.out⟩
                          case measure => simp [intOf]; omega
      · obtain rfl : k = m := by omega
        have HE1 := Lib.hid (HP.out.call ((Below.refl _ _).alloc (Nat.le_refl _) (.cells #[.int .i64 1] 3)))
        as_aux_lemma => --ok2
          go_wp2_with fail
          refine (clear_nil _).mono ?_
          rintro e w3 ⟨rfl, rfl⟩
          dsimp only
          go_wp2_with fail
          refine (put_nil _ 1 1 (wr.heap.size + 1) [1] _ (Blk.reads (Blk.new wr _ _) (by omega) rfl rfl (by decide)) (by omega)).mono ?_
          rintro e w3 ⟨rfl, hb3⟩
          have H3 := Lib.hid (HE1.out.call hb3)
          have H4 := Lib.hid (H3.out.call ((Below.refl _ _).alloc (Nat.le_refl _) (.cells #[.int .i64 1] 3)))
          clear hb3
          dsimp only
          go_wp2_with fail
          refine (cut_nil _ 1 1 (w3.heap.size + 1) [1] _ (Blk.reads (Blk.new w3 _ _) (by omega) rfl rfl (by decide)) (by omega) (by simp)).mono ?_
          rintro e w5 ⟨rfl, hb5⟩
          have H5 := Lib.hid (H4.out.call hb5)
          clear hb5
          dsimp only
          go_wp2_with fail
          refine (count_nil _).mono ?_
          rintro e w6 ⟨rfl, rfl⟩
          dsimp only
          go_wp2_with fail
          refine (Sv.all_nil _).mono ?_
          rintro e w6 ⟨rfl, rfl⟩
          dsimp only
          go_wp2_with fail
          refine (has_nil _ _).mono ?_
          rintro e w6 ⟨rfl, hb6⟩
          have H6 := Lib.hid (H5.out.call hb6)
          clear hb6
          dsimp only
          go_wp2_with fail
          refine (next_nil _ _).mono ?_
          rintro e w7 ⟨rfl, rfl⟩
          dsimp only
          go_wp2_with fail
          refine (gap_nil _ _).mono ?_
          rintro e w7 ⟨rfl, rfl⟩
          dsimp only
          go_wp2_with fail
          refine (word_nil _ _).mono ?_
          rintro e w7 ⟨rfl, rfl⟩
          dsimp only
          go_wp2_with fail
          refine (H6.out.book.apart H6.out.zz).mono ?_
          rintro e w8 ⟨rfl, hk8⟩
          have HEND := Lib.hid (show Below w.heap.size w w8 from H6.out.sw.bel.trans (hk8.below H6.out.sw.bel.size (fun i hi e => by
            rcases e with e | e
            · have := (H6.out.dis i e).2.2.2; omega
            · have := H6.out.sw.bel.size; omega)))
          clear hk8
          dsimp only
          go_wp2_with fail
          go_ret
          exact ⟨rfl, HEND.out⟩
theorem walk (x : Int) (A : Option Addr) (m c : Nat) (ops : List (Value × Value)) (fr kk : Int) (w : World) (hT : Tab w) (_w0 : (Lit.int .i64 x).wf = true) (hl : ops.length = m)
    (wl : ∀ q ∈ ops, (∃ z, q.1 = .int .i64 z ∧ (Lit.int .i64 z).wf = true) ∧ (∃ (A : Option Addr) (n c : Nat) (zs : List Int), q.2 = .slice A n c ∧ zs.length = n ∧ (∀ z ∈ zs, (Lit.int .i64 z).wf = true) ∧ Reads w w.heap.size 1 A n c (zs.map (.int .i64))))
    (hR : Reads w w.heap.size 2 A m c (pairCells ops)) (_w2 : (Lit.int .i64 fr).wf = true) (_w3 : (Lit.int .i64 kk).wf = true) :
    Calls Tryd.prog 6 #[.int .i64 x, .slice A m c, .int .i64 fr, .int .i64 kk] w fun e w' => e = .returned (.bool true) ∧ Below w.heap.size w w' := by
  by_cases h : 40 < m ∨ 600 < x
  · exact early x A m c fr kk w hT h
  · have hb := wf_bd _w2
    exact core x A m c ops fr kk w hT hl wl hR (by omega) _ (by omega) rfl (by omega) (max fr 0).toNat (by omega)
end Go.Proofs.YtjlbmelpoaffpaaDoor.SievePlays
