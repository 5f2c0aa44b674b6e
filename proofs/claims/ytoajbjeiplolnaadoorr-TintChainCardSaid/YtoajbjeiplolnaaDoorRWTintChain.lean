/- The walk of besomlaw20.TintChain: it returns true, and writes nothing that was there. -/
import Derived.Test.YtoajbjeiplolnaaDoorRCh
namespace Go.Proofs.YtoajbjeiplolnaaDoorR.TintChain
open Go.RowKit Ar Hp Tn Ch
set_option linter.unusedSimpArgs false
set_option linter.unusedVariables false

set_option maxRecDepth 100000 in
theorem early (N : Int) (from_ room : Int) (w : World) (hT : Pg.Tab w) (h : N < 1 ∨ 60 < N) :
    Calls Tryd.prog 10 #[.int .i64 N, .int .i64 from_, .int .i64 room] w fun e w' => e = .returned (.bool true) ∧ Below w.heap.size w w' := by
  have HT := Lib.hid hT
  clear hT
  by_cases h0 : N < 1
  · clear h
    go_enter Tryd.func10, Tryd.ntmps10
    go_wp2_with fail
    refine (Tn.alive _ HT.out).mono ?_
    rintro e w1 ⟨rfl, hb⟩
    dsimp only
    go_wp2_with fail
    go_ret
    exact ⟨rfl, hb⟩
  · have h1 : 60 < N := by omega
    clear h
    go_enter Tryd.func10, Tryd.ntmps10
    go_wp2_with fail
    refine (Tn.alive _ HT.out).mono ?_
    rintro e w1 ⟨rfl, hb⟩
    dsimp only
    go_wp2_with fail
    go_ret
    exact ⟨rfl, hb⟩

set_option maxRecDepth 100000 in
set_option maxHeartbeats 8000000 in
theorem core (N : Nat) (from_ room : Int) (w : World) (hT : Pg.Tab w) (hN0 : 1 ≤ N) (hN : N ≤ 60) :
    Calls Tryd.prog 10 #[.int .i64 (N : Int), .int .i64 from_, .int .i64 room] w fun e w' => e = .returned (.bool true) ∧ Below w.heap.size w w' := by
  obtain ⟨i0, hi0, hz0, hz1, hz2⟩ := info_parts Pg.infoI
  have HI := Lib.hid (⟨hi0, hz0, hz1, hz2⟩ : Tryd.prog.info? 3 = some i0 ∧ i0.zero = some (.int .i64 0) ∧ i0.size = 1 ∧ i0.bytes = 8)
  have HT := Lib.hid hT
  have h4' : ¬ (N : Int) < 1 := by omega
  have h5' : ¬ (60 : Int) < (N : Int) := by omega
  clear hT hi0 hz0 hz1 hz2
  go_enter Tryd.func10, Tryd.ntmps10
  go_wp2_with fail
  refine (Tn.alive _ HT.out).mono ?_
  rintro e w0 ⟨rfl, hb0⟩
  have HB0 := Lib.hid hb0
  have HT0 := Lib.hid (HT.out.call hb0)
  clear hb0
  dsimp only
  go_wp2_with fail
  have hb1 := fresh_alloc (fresh_alloc (Below.refl w0.heap.size w0) (.cells #[.int .i64 1, .int .i64 16] 3)) (.cells #[.slice (some ⟨w0.heap.size, 0, none⟩) 2 2] 64)
  have hrs := rs_lit w0 [1, 16] #[.int .i64 1, .int .i64 16] rfl (by decide) (by decide)
  have HB1 := Lib.hid (fresh_call HB0.out hb1)
  have HT1 := Lib.hid (HT0.out.call hb1)
  have HRS := Lib.hid hrs
  clear hb1 hrs
  refine (Hp.new_any 8 _ 1 1 [[1, 16]] _ HRS.out chk_1).mono ?_
  generalize (w0.alloc (.cells #[.int .i64 1, .int .i64 16] 3)).alloc (.cells #[.slice (some ⟨w0.heap.size, 0, none⟩) 2 2] 64) = W at *
  obtain ⟨sx, hsx⟩ : ∃ sx, w0.heap.size + 1 = sx := ⟨_, rfl⟩
  rw [hsx] at HRS ⊢
  clear hsx
  intro e w1 hn
  obtain ⟨B, rfl, hw1⟩ := start_at HT1.out hn
  have H01 := Lib.hid HT1.out.1
  have H1 := Lib.hid (show HW W w1 B [[1, 16]] (Hp.start 8) from hw1)
  clear hn hw1
  dsimp only
  go_wp2_with fail
  refine (Pil.new_any room _).mono ?_
  rintro e w2 ⟨rfl, hp2, hb2⟩
  have H2 := Lib.hid (show CR W w2 B w1.heap.size (rm room) 0 (0 - 1) (Hp.start 8) [] none 0 from ⟨PH.made H1.out hp2 hb2, ⟨World.ownsRow_nil _ _ _ _, fun k hk => (by cases hk), fun k hk => (by cases hk)⟩, CS.start, fun e => by cases e⟩)
  clear hp2 hb2 H1
  obtain ⟨zp, hzp⟩ : ∃ zp, w1.heap.size = zp := ⟨_, rfl⟩
  rw [hzp] at H2 ⊢
  obtain ⟨hrm1, hrm2⟩ := rm_bd room
  obtain ⟨R, hR⟩ : ∃ R, rm room = R := ⟨_, rfl⟩
  rw [hR] at H2 hrm1 hrm2
  clear hzp hR
  dsimp only
  go_wp2_with fail
  go_loopw [11, 12, 13, 14] (fun lv iv _ _ wr => ∃ (i : Nat) (L : List Int) (A : Option Addr) (c : Nat) (σ : HS), i ≤ N ∧ iv = .int .i64 (i : Int) ∧ lv = .slice A L.length c ∧ L = (List.range i).map ad ∧ CR W wr B zp R i (i - 1) σ L A c) (fun _ iv _ _ _ => N - (intOf iv).toNat)
  case atStart => exact ⟨0, [], none, 0, _, Nat.zero_le _, rfl, rfl, rfl, H2.out⟩
  case round =>
    clear H2
    obtain ⟨i, L, A', c', σ, hi, rfl, rfl, hLe, hcr⟩ := hrel
    have H3 := Lib.hid hcr
    have HLE := Lib.hid hLe
    have hLl : L.length = i := by rw [hLe]; simp
    clear hcr hLe
    obtain ⟨w3, rfl⟩ : ∃ w3 : World, w3 = wr := ⟨_, rfl⟩
    by_cases hiN : i < N
    · have hiN2 : (i : Int) < (N : Int) := by omega
      have HLL0 := Lib.hid hLl
      have hll2 : L.length ≤ 60 := by omega
      clear hLl
      have hsr : 0 ≤ σ.sr ∧ σ.sr ≤ 4611686018427387904 := by rw [H3.out.cs.sr]; omega
      have hgv : 0 ≤ σ.gv ∧ σ.gv ≤ 4611686018427387904 := by rw [H3.out.cs.gv]; omega
      have HSR := Lib.hid hsr
      have HGV := Lib.hid hgv
      clear hsr hgv
      go_wp2_with fail
      refine (alloc_any B [[1, 16]] σ 0 [1, 16] false _ H3.out.ph.hw.hp H3.out.ph.hw.tab (H3.out.ph.hw.foot0 H01.out) rfl HSR.out HGV.out).mono ?_
      intro e w4 ha
      obtain ⟨a, f, rfl, hst⟩ := H3.out.al H01.out (by omega) (by omega) ha
      have HST := Lib.hid hst
      clear ha hst H3
      dsimp only
      go_upto_region 13 with (fail)
      go_cut [65] from 60 to 65 (fun p wx => ∃ bb : Bool, p = .bool bb ∧ ((bb = true ∧ ∃ bp, CF W wx B zp R i (i - 1) σ bp L A' c') ∨ (bb = false ∧ f = 0 ∧ a = ad i ∧ ∃ σ', CR W wx B zp R (i + 1) (i - 1) σ' L A' c')))
      case first =>
        rcases HST.out with ⟨rfl, h16, hcr⟩ | ⟨rfl, rfl, hcr⟩
        · have H4 := Lib.hid hcr
          clear hcr HST
          go_wp2_with fail
          refine (fresh_any B [[1, 16]] σ 1 16 _ H4.out.ph.hw.hp (by decide) (by decide)).mono ?_
          intro e w5 hf
          obtain ⟨rfl, hcf⟩ := H4.out.fr H01.out (by omega) h16 hf
          have H5 := Lib.hid hcf
          clear hcf hf H4
          dsimp only
          go_wp2_with fail
          go_meet
          exact ⟨true, rfl, .inl ⟨rfl, H5.out⟩⟩
        · have H4 := Lib.hid hcr
          clear hcr HST
          go_wp2_with fail
          go_meet
          exact ⟨false, rfl, .inr ⟨rfl, (by first | rfl | trivial), (by first | rfl | trivial), H4.out⟩⟩
      case rest =>
      obtain ⟨bb, rfl, hbb⟩ := hcut
      have HBB := Lib.hid hbb
      clear hbb HST
      obtain ⟨w4b, rfl⟩ : ∃ w4b : World, w4b = wc := ⟨_, rfl⟩
      go_upto_if 65 with (fail)
      go_cut [13, 14] from 66 to 70 (fun av fv wx => av = .int .i64 (ad i) ∧ fv = .int .i64 0 ∧ ∃ σ', CR W wx B zp R (i + 1) (i - 1) σ' L A' c')
      case first =>
        rcases HBB.out with ⟨rfl, bp, hcf⟩ | ⟨rfl, rfl, rfl, hcr⟩
        · have H4 := Lib.hid hcf
          clear hcf HBB
          go_wp2_with fail
          refine (alloc_any B [[1, 16]] { σ with ps := σ.ps.set (i / 16) (some ⟨bp, 1, 16, 0, 0⟩) } 0 [1, 16] false _ H4.out.ph.hw.hp H4.out.ph.hw.tab (H4.out.ph.hw.foot0 H01.out) rfl HSR.out HGV.out).mono ?_
          intro e w6 ha
          obtain ⟨rfl, hcr⟩ := H4.out.al H01.out (by omega) (by omega) ha
          have H6 := Lib.hid hcr
          clear ha hcr H4
          dsimp only
          go_wp2_with fail
          go_meet
          exact ⟨rfl, rfl, H6.out⟩
        · have H4 := Lib.hid hcr
          clear hcr HBB
          go_wp2_with fail
          go_meet
          exact ⟨rfl, rfl, H4.out⟩
      case rest =>
      obtain ⟨rfl, rfl, σ5, hcr⟩ := hcut
      have H5 := Lib.hid hcr
      clear hcr HBB
      obtain ⟨w5, rfl⟩ : ∃ w5 : World, w5 = wc := ⟨_, rfl⟩
      go_upto_region 15 with (fail)
      go_cut [87] from 71 to 87 (fun p wx => p = .bool false ∧ ∃ σ', CR W wx B zp R (i + 1) i σ' L A' c')
      case first =>
        rcases Nat.eq_zero_or_pos i with h00 | hip
        · have hi1 : ¬ (0 : Int) < (i : Int) := by omega
          have H6 := Lib.hid (show CR W w5 B zp R (i + 1) i σ5 L A' c' from by
            have := H5.out
            rwa [show i - 1 = i by omega] at this)
          clear h00 H5
          go_wp2_with fail
          go_meet
          exact ⟨rfl, _, H6.out⟩
        · have hip2 : (0 : Int) < (i : Int) := by omega
          have hi1 : (i : Int) - 1 = ((i - 1 : Nat) : Int) := by omega
          have hi10 : (0 : Int) ≤ ((i - 1 : Nat) : Int) := by omega
          have hlL := HLL0.out
          have hi1L : ((i - 1 : Nat) : Int) < (L.length : Int) := by omega
          obtain ⟨g, rfl⟩ : ∃ g, A' = some ⟨g, 0, none⟩ := by
            rcases H5.out.lr.own.2 with ⟨_, h⟩ | ⟨g, cap, _, h, _⟩
            · exfalso; omega
            · injection h with h3; exact ⟨g, h3⟩
          have hLi1 : L[i - 1]? = some (ad (i - 1)) := by rw [HLE.out, List.getElem?_map, List.getElem?_range (by omega)]; rfl
          have hcell := H5.out.lr.own.cells (g := g) rfl (i - 1) (.int .i64 (ad (i - 1))) (by simp [ints', hLi1])
          rw [add_form] at hcell
          have hcell : w5.cell? ⟨g, i - 1, none⟩ = some (.int .i64 (ad (i - 1))) := by simpa using hcell
          have hab5 := H5.out.bd (show i - 1 < i + 1 by omega)
          have HHF := Lib.hid (H5.out.hasF_ (show i - 1 < i + 1 by omega))
          obtain ⟨j, hj⟩ : ∃ j, i - 1 = j := ⟨_, rfl⟩
          obtain rfl : i = j + 1 := by omega
          rw [hj] at hi1 hi10 hi1L hcell hab5 HHF H5
          clear hLi1 hj hlL
          go_wp2_with (simp only [hi1])
          refine (hstore_yes B [[1, 16]] σ5 (ad j) 1 (ad (j + 1)) _ H5.out.ph.hw.hp (by omega) HHF.out).mono ?_
          rintro e w6 ⟨rfl, hat6, hk6⟩
          have H6 := Lib.hid (H5.out.store H01.out (by omega) hat6 hk6)
          clear hat6 hk6 hcell HHF H5
          dsimp only
          go_wp2_with fail
          go_meet
          exact ⟨rfl, H6.out⟩
      case rest =>
      obtain ⟨hp, σ6, hcr⟩ := hcut
      subst hp
      have H6 := Lib.hid hcr
      clear hcr H5
      obtain ⟨w6, rfl⟩ : ∃ w6 : World, w6 = wc := ⟨_, rfl⟩
      obtain ⟨x, hx⟩ : ∃ x, ad i = x := ⟨_, rfl⟩
      have hxb := H6.out.bd (show i < i + 1 by omega)
      have HLL := Lib.hid (show L ++ [x] = (List.range (i + 1)).map ad by rw [HLE.out, List.range_succ, List.map_append, ← hx]; rfl)
      rw [hx] at hxb ⊢
      clear hx
      go_wp2_with (first
        | (at_builtin; go_loud (refine wpList_app _ rfl _ _ 27 rfl W.heap.size 3 i0 (.int .i64 0) 1 8 Tryd.underlying27 HI.out.1 HI.out.2.1 HI.out.2.2.1 HI.out.2.2.2 rfl (by decide) _ _ _ rfl (H6.out.lr.own.alloc _) (w6.heap.size + 1) _ 1 1 [.int .i64 x] rfl (Blk.reads (Blk.new w6 _ _) (by simp) rfl rfl (by decide)) ?c1 ?c2 ?c3 ?c4 ?_))
        | fail)
      case c1 => intro u hu; simp at hu; subst hu; rfl
      case c2 => unfold maxLen; omega
      case c3 => omega
      case c4 => (try simp only [World.size_alloc]); have := H6.out.ph.hw.bel.size; omega
      intro a7 c7 w7 ho7 hg7 hat7
      have H7 := Lib.hid (H6.out.app H01.out ho7 hg7 hat7)
      have hll : (L ++ [x]).length = L.length + 1 := by simp
      clear ho7 hg7 hat7 H6
      go_wp2_with fail
      go_roundw
      case rel => exact ⟨i + 1, L ++ [x], a7, c7, _, by omega, by go_num, by rw [hll], HLL.out, H7.out⟩
      case measure => simp [intOf]; omega
    · obtain rfl : i = N := by omega
      have hiN2 : ¬ (i : Int) < (i : Int) := by omega
      have hlr := H3.out.lr
      have HP := Lib.hid H3.out.ph.hw.hp
      have HCS := Lib.hid H3.out.cs
      have HRD := Lib.hid (show Rd W w3 ⟨B, [[1, 16]], zp, zp, R, W.heap.size, some ⟨sx, 0, none⟩, 1⟩ σ ⟨col σ, [], false⟩ σ (.slice none 0 0) L A' c' from ⟨H3.out.ph.tr hrm2 (HRS.out.keep H3.out.ph.hw.bel) (Nat.le_trans H3.out.ph.hw.newy H3.out.ph.hw.hp.yz), hlr.own, fun x hx e => by
        rcases e with e | rfl | e
        · exact hlr.far x hx e
        · exact H3.out.rz hx
        · cases e⟩)
      obtain ⟨k, hk, hkx⟩ := Bit.idx from_ i (by omega) (by omega)
      have hLk := Lat HLE.out hk
      obtain ⟨g, hg, hgl, hcell⟩ := HRD.out.at_ hLk
      subst hg
      obtain ⟨hf1, hf2, hf3⟩ := CT.first (room := R) HCS.out HP.out hk hrm1 (white_of fun k s t ht => (HCS.out.wh k s t ht).2)
      have hab := H3.out.bd hk
      obtain ⟨T, hT⟩ : ∃ T : TS, (⟨upd (col σ) (ad k) 1, [ad k], false⟩ : TS) = T := ⟨_, rfl⟩
      rw [hT] at hf1 hf2 hf3
      have HF1 := Lib.hid hf1
      have HF2 := Lib.hid hf2
      have HF3 := Lib.hid hf3
      have hk0 : (k : Int) < (i : Int) := by omega
      have hkL : (k : Int) < (L.length : Int) := by omega
      obtain ⟨m, hm⟩ : ∃ m, i - 1 = m := ⟨_, rfl⟩
      rw [hm] at HCS
      have HM := Lib.hid hm
      have hLl2 : L.length = i := hLl
      have HLL := Lib.hid hLl2
      clear hlr hLk hf1 hf2 hf3 hT H3 hm hLl2 hLl
      go_wp2_with (simp only [hkx])
      have hA := fresh_alloc (Below.refl w3.heap.size w3) (.cells #[.int .i64 (ad k)] 3)
      refine (shade_any W _ _ σ _ _ _ H01.out (HRD.out.call hA).tr _ 1 1 [ad k] rfl (by omega) (fun x hx => by rw [List.mem_singleton.1 hx]; omega) (one_src w3 _ fun i hi => HRD.out.tr.foot_lt hi)).mono ?_
      rw [HF1.out]
      rintro e w4 ⟨σ4, v4, rfl, htr4, hk4, hg4⟩
      have HRD4 := Lib.hid ((HRD.out.call hA).next htr4 hk4 hg4)
      clear htr4 hk4 hg4 hA HRD
      have hszw := HRD4.out.tr.hw.bel.size
      have hcell2 := Rd_cell HRD4.out (Lat HLE.out hk)
      clear hcell
      dsimp only
      go_wp2_with fail
      have hA := fresh_alloc (Below.refl w4.heap.size w4) (.cells #[.int .i64 (ad k)] 3)
      refine (shade_any W _ _ σ _ _ _ H01.out (HRD4.out.call hA).tr _ 1 1 [ad k] rfl (by omega) (fun x hx => by rw [List.mem_singleton.1 hx]; omega) (one_src w4 _ fun i hi => HRD4.out.tr.foot_lt hi)).mono ?_
      rw [HF3.out]
      rintro e w5 ⟨σ5, v5, rfl, htr5, hk5, hg5⟩
      have HRD5 := Lib.hid ((HRD4.out.call hA).next htr5 hk5 hg5)
      clear htr5 hk5 hg5 hA HRD4 hcell2
      dsimp only
      go_wp2_with fail
      obtain ⟨wo, rfl⟩ : ∃ wo : World, wo = w5 := ⟨_, rfl⟩
      obtain ⟨N, rfl⟩ : ∃ N : Nat, N = i := ⟨_, rfl⟩
      go_loopw [16, 17] (fun iv _ wx => ∃ (q : Nat) (T : TS) (σ1 : HS) (v : Value), k ≤ q ∧ q ≤ N ∧ iv = .int .i64 (q : Int) ∧ Rd W wx ⟨B, [[1, 16]], zp, zp, R, W.heap.size, some ⟨sx, 0, none⟩, 1⟩ σ T σ1 v L (some ⟨g, 0, none⟩) c' ∧ CT k q N T) (fun iv _ _ => N - (intOf iv).toNat)
      case atStart => exact ⟨k, T, σ5, v5, Nat.le_refl _, by omega, rfl, HRD5.out, HF2.out⟩
      case round =>
        clear HRD5 HF2
        obtain ⟨q, T, σ1, v, hkq, hqN, rfl, hrd, hct⟩ := hrel
        have HRD := Lib.hid hrd
        have HCT := Lib.hid hct
        clear hrd hct
        obtain ⟨w6, rfl⟩ : ∃ w6 : World, w6 = wr := ⟨_, rfl⟩
        by_cases hq : q < N
        · have hq2 : (q : Int) < (N : Int) := by omega
          have hqL : (q : Int) < (L.length : Int) := by rw [HLL.out]; omega
          obtain ⟨hct7, hr7⟩ := HCT.out.step (room := R) HCS.out HM.out.symm HP.out hq hkq hrm1
          have hTl := HCT.out.l
          rw [if_pos hq] at hTl
          have HPT := Lib.hid (show ∀ x ∈ ptrs [[1, 16]] σ (ad q), x ≤ 9223372036854775807 from fun x hx => by
            rw [HCS.out.ptrs_ HP.out hq, List.mem_singleton] at hx
            rw [hx]
            split
            · unfold ad; omega
            · omega)
          have HC7 := Lib.hid (step_grey W _ ⟨B, [[1, 16]], zp, zp, R, W.heap.size, some ⟨sx, 0, none⟩, 1⟩ σ T σ1 v H01.out HRD.out.tr [] (ad q) hTl (HCT.out.c1 hq) HPT.out)
          obtain ⟨r, hr⟩ : ∃ r, stT [[1, 16]] σ R T = r := ⟨_, rfl⟩
          have hr : stT (TB.mk B [[1, 16]] zp zp R W.heap.size (some ⟨sx, 0, none⟩) 1).ls σ (TB.mk B [[1, 16]] zp zp R W.heap.size (some ⟨sx, 0, none⟩) 1).room T = r := hr
          rw [hr] at HC7
          have hr : stT [[1, 16]] σ R T = r := hr
          rw [hr] at hct7 hr7
          have HCT7 := Lib.hid hct7
          have HBK := Lib.hid (hct7.black q hkq (by omega) hq)
          have hab := hat_bound HP.out (HCS.out.hat_ HP.out hq)
          obtain ⟨T7, n7⟩ := r
          dsimp only at HC7 HCT7 HBK hr7
          clear hct7 hTl hr HCT HPT
          go_wp2_with fail
          refine HC7.out.mono ?_
          rintro e w7 ⟨σ7, v7, rfl, htr7, hk7, hg7⟩
          have HRD7 := Lib.hid (HRD.out.next htr7 hk7 hg7)
          have hcell7 := Rd_cell HRD7.out (Lat HLE.out hq)
          have HCX := Lib.hid ((htr7.col (ad q)).trans HBK.out)
          clear htr7 hk7 hg7 HRD HC7
          dsimp only
          by_cases hq1 : q + 1 < N
          · have hq3 : (q : Int) + 1 < (N : Int) := by omega
            have hq4 : ((q : Int) + 1 == (N : Int)) = false := by rw [beq_eq_false_iff_ne]; omega
            rw [if_pos hq1] at hr7
            subst hr7
            go_wp2_with fail
            refine (color_any B [[1, 16]] σ7 (ad q) _ HRD7.out.tr.hw.hp (by omega)).mono ?_
            rw [HCX.out]
            rintro e w8 ⟨rfl, hb8⟩
            have HRD8 := Lib.hid (HRD7.out.call hb8)
            clear hb8 HRD7 hcell7
            dsimp only
            go_wp2_with fail
            go_roundw
            case rel => exact ⟨q + 1, T7, σ7, v7, by omega, by omega, by go_num, HRD8.out, HCT7.out⟩
            case measure => simp [intOf]; omega
          · have hq3 : ¬ (q : Int) + 1 < (N : Int) := by omega
            have hq4 : ((q : Int) + 1 == (N : Int)) = true := by rw [beq_iff_eq]; omega
            rw [if_neg hq1] at hr7
            subst hr7
            go_wp2_with fail
            refine (color_any B [[1, 16]] σ7 (ad q) _ HRD7.out.tr.hw.hp (by omega)).mono ?_
            rw [HCX.out]
            rintro e w8 ⟨rfl, hb8⟩
            have HRD8 := Lib.hid (HRD7.out.call hb8)
            clear hb8 HRD7 hcell7
            dsimp only
            go_wp2_with fail
            go_roundw
            case rel => exact ⟨q + 1, T7, σ7, v7, by omega, by omega, by go_num, HRD8.out, HCT7.out⟩
            case measure => simp [intOf]; omega
        · obtain rfl : q = N := by omega
          have hq2 : ¬ (q : Int) < (q : Int) := by omega
          have hl7 := HCT.out.l
          rw [if_neg (by omega)] at hl7
          have HL7 := Lib.hid hl7
          clear hl7
          obtain ⟨N, rfl⟩ : ∃ N : Nat, N = q := ⟨_, rfl⟩
          go_wp2_with fail
          go_loopw [18] (fun iv wx => ∃ r : Nat, r ≤ k ∧ iv = .int .i64 (r : Int) ∧ Rd W wx ⟨B, [[1, 16]], zp, zp, R, W.heap.size, some ⟨sx, 0, none⟩, 1⟩ σ T σ1 v L (some ⟨g, 0, none⟩) c') (fun iv _ => k - (intOf iv).toNat)
          case atStart => exact ⟨0, Nat.zero_le _, rfl, HRD.out⟩
          case round =>
            clear HRD
            obtain ⟨r, hr, rfl, hrd⟩ := hrel
            have HRD := Lib.hid hrd
            clear hrd
            by_cases hrk : r < k
            · have hrk2 : (r : Int) < (k : Int) := by omega
              have hrL : (r : Int) < (L.length : Int) := by rw [HLL.out]; omega
              have hrN : r < N := by omega
              have hcell7 := Rd_cell HRD.out (Lat HLE.out hrN)
              have HCX := Lib.hid ((HRD.out.tr.col (ad r)).trans (HCT.out.white r (.inl hrk) hrN))
              have hab := hat_bound HP.out (HCS.out.hat_ HP.out hrN)
              go_wp2_with fail
              refine (color_any B [[1, 16]] σ1 (ad r) _ HRD.out.tr.hw.hp (by omega)).mono ?_
              rw [HCX.out]
              rintro e w8 ⟨rfl, hb8⟩
              have HRD8 := Lib.hid (HRD.out.call hb8)
              clear hb8 HRD hcell7
              dsimp only
              go_wp2_with fail
              go_roundw
              case rel => exact ⟨r + 1, by omega, by go_num, HRD8.out⟩
              case measure => simp [intOf]; omega
            · obtain rfl : r = k := by omega
              have hrk2 : ¬ (r : Int) < (r : Int) := by omega
              go_wp2_with fail
              refine (Tn.step_end W _ ⟨B, [[1, 16]], zp, zp, R, W.heap.size, some ⟨sx, 0, none⟩, 1⟩ σ T σ1 v HRD.out.tr HL7.out HCT.out.lost).mono ?_
              rintro e w8 ⟨rfl, rfl⟩
              dsimp only
              go_wp2_with fail
              refine (done_any W _ ⟨B, [[1, 16]], zp, zp, R, W.heap.size, some ⟨sx, 0, none⟩, 1⟩ σ T σ1 v HRD.out.tr).mono ?_
              rw [HL7.out, HCT.out.lost]
              rintro e w8 ⟨rfl, rfl⟩
              dsimp only
              go_wp2_with fail
              refine (Pil.lost_any _ _ _ _ _ _ _ HRD.out.tr.pl).mono ?_
              rw [HCT.out.lost]
              rintro e w8 ⟨rfl, rfl⟩
              have HE := Lib.hid (fresh_call HB1.out HRD.out.tr.hw.bel)
              dsimp only
              go_wp2_with fail
              go_ret
              exact ⟨rfl, HE.out⟩
theorem walk (N : Int) (from_ room : Int) (w : World) (hT : Pg.Tab w) (_w0 : (Lit.int .i64 N).wf = true) (_w1 : (Lit.int .i64 from_).wf = true) (_w2 : (Lit.int .i64 room).wf = true) :
    Calls Tryd.prog 10 #[.int .i64 N, .int .i64 from_, .int .i64 room] w fun e w' => e = .returned (.bool true) ∧ Below w.heap.size w w' := by
  by_cases h : N < 1 ∨ 60 < N
  · exact early N from_ room w hT h
  · obtain ⟨M, rfl⟩ : ∃ M : Nat, N = (M : Int) := ⟨N.toNat, by omega⟩
    exact core M from_ room w hT (by omega) (by omega)
end Go.Proofs.YtoajbjeiplolnaaDoorR.TintChain
