/- The walk of besomlaw7.HeapSweeps: it returns true, and writes nothing that was there. -/
import Derived.Test.YtoajbjeiplolnaaDoorRHSw
import Derived.Test.YtoajbjeiplolnaaDoorRHpS
import Derived.Deep.Cut
namespace Go.Proofs.YtoajbjeiplolnaaDoorR.HeapSweeps
open Go.RowKit Pg Ar Tm Hp
set_option linter.unusedSimpArgs false
set_option linter.unusedVariables false

set_option maxRecDepth 100000 in
theorem early (A : Option Addr) (n c : Nat) (A2 : Option Addr) (m c2 : Nat) (N : Int) (w : World) (hT : Tab w) (hm : m ≤ 9223372036854775807) (h : n < 1 ∨ 8 < n ∨ 60 < m ∨ N < 0 ∨ 60 < N) :
    Calls Tryd.prog 6 #[.slice A n c, .slice A2 m c2, .int .i64 N] w fun e w' => e = .returned (.bool true) ∧ Below w.heap.size w w' := by
  have HT := Lib.hid hT
  have H0 := Lib.hid hT.1
  clear hT
  by_cases h1 : n < 1
  · have h1' : (n : Int) < 1 := by omega
    clear h h1
    go_enter Tryd.func6, Tryd.ntmps6
    go_wp2_with fail
    refine (alive _ HT.out H0.out).mono ?_
    rintro e w1 ⟨rfl, hb⟩
    dsimp only
    go_wp2_with fail
    go_ret
    exact ⟨rfl, hb⟩
  · have h1' : ¬ (n : Int) < 1 := by omega
    by_cases h2 : 8 < n
    · have h2' : (8 : Int) < (n : Int) := by omega
      clear h h1 h2
      go_enter Tryd.func6, Tryd.ntmps6
      go_wp2_with fail
      refine (alive _ HT.out H0.out).mono ?_
      rintro e w1 ⟨rfl, hb⟩
      dsimp only
      go_wp2_with fail
      go_ret
      exact ⟨rfl, hb⟩
    · have h2' : ¬ (8 : Int) < (n : Int) := by omega
      by_cases h3 : 60 < m
      · have h3' : (60 : Int) < (m : Int) := by omega
        clear h h1 h2 h3
        go_enter Tryd.func6, Tryd.ntmps6
        go_wp2_with fail
        refine (alive _ HT.out H0.out).mono ?_
        rintro e w1 ⟨rfl, hb⟩
        dsimp only
        go_wp2_with fail
        go_ret
        exact ⟨rfl, hb⟩
      · have h3' : ¬ (60 : Int) < (m : Int) := by omega
        by_cases h4 : N < 0
        · clear h h1 h2 h3
          go_enter Tryd.func6, Tryd.ntmps6
          go_wp2_with fail
          refine (alive _ HT.out H0.out).mono ?_
          rintro e w1 ⟨rfl, hb⟩
          dsimp only
          go_wp2_with fail
          go_ret
          exact ⟨rfl, hb⟩
        · have h5 : (60 : Int) < N := by omega
          clear h h1 h2 h3
          go_enter Tryd.func6, Tryd.ntmps6
          go_wp2_with fail
          refine (alive _ HT.out H0.out).mono ?_
          rintro e w1 ⟨rfl, hb⟩
          dsimp only
          go_wp2_with fail
          go_ret
          exact ⟨rfl, hb⟩
theorem two_slots {n0 : Nat} (h1 : 1 ≤ n0) (h2 : n0 ≤ 16) : ∃ m z : Nat, Cls.csl (Cls.cof n0) = (m : Int) ∧ Cls.csz (Cls.cof n0) = (z : Int) ∧ 2 ≤ m ∧ m ≤ 32 ∧ n0 ≤ z ∧ z ≤ 16 ∧ 0 < z := by
  obtain ⟨c0, c1⟩ := Cls.cof_csz (n := (n0 : Int)) (by omega)
  have hb := Cls.cof_bd (n0 : Int)
  have hz := Cls.csz_bd (Cls.cof (n0 : Int))
  have hm : 2 ≤ Cls.csl (Cls.cof (n0 : Int)) ∧ Cls.csl (Cls.cof (n0 : Int)) ≤ 32 := by
    generalize Cls.cof (n0 : Int) = c at *
    have : c = 0 ∨ c = 1 ∨ c = 2 ∨ c = 3 ∨ c = 4 ∨ c = 5 ∨ c = 6 ∨ c = 7 := by omega
    rcases this with rfl | rfl | rfl | rfl | rfl | rfl | rfl | rfl <;> decide
  exact ⟨(Cls.csl (Cls.cof (n0 : Int))).toNat, (Cls.csz (Cls.cof (n0 : Int))).toNat, by omega, by omega, by omega, by omega, by omega, by omega, by omega⟩
theorem rs_cell {w : World} {B n c sb so : Nat} {ls : List (List Int)} (h : Shp.RS w B (some ⟨sb, so, none⟩) n c ls) {j : Nat} {l : List Int} (hl : ls[j]? = some l) : ∃ A' c', w.cell? ⟨sb, so + j, none⟩ = some (.slice A' l.length c') := by
  obtain ⟨b, off, A', c', e, _, h2⟩ := rs_at h hl
  cases e
  exact ⟨A', c', h2⟩
theorem tmod_nat (i n : Nat) : ((i : Int)).tmod (n : Int) = ((i % n : Nat) : Int) := (Int.ofNat_tmod i n).symm
set_option maxRecDepth 100000 in
set_option maxHeartbeats 2000000 in
theorem core (A : Option Addr) (n c : Nat) (of : List Int) (A2 : Option Addr) (m c2 : Nat) (sh : List Int) (N : Nat) (w : World) (hT : Tab w) (hl : of.length = n) (hR : Reads w w.heap.size 1 A n c (of.map (.int .i64))) (hl2 : sh.length = m) (hR2 : Reads w w.heap.size 1 A2 m c2 (sh.map (.int .i64))) (h0 : 1 ≤ n) (h8 : n ≤ 8) (hm : m ≤ 60) (hN : N ≤ 60) :
    Calls Tryd.prog 6 #[.slice A n c, .slice A2 m c2, .int .i64 (N : Int)] w fun e w' => e = .returned (.bool true) ∧ Below w.heap.size w w' := by
  obtain ⟨i0, hi0, hz0, hz1, hz2⟩ := info_parts infoI
  have HI := Lib.hid (⟨hi0, hz0, hz1, hz2⟩ : Tryd.prog.info? 3 = some i0 ∧ i0.zero = some (.int .i64 0) ∧ i0.size = 1 ∧ i0.bytes = 8)
  have HT := Lib.hid hT
  have H0 := Lib.hid hT.1
  have HL := Lib.hid hl
  have HR := Lib.hid hR
  have HL2 := Lib.hid hl2
  have HR2 := Lib.hid hR2
  have h1' : ¬ (n : Int) < 1 := by omega
  have h2' : ¬ (8 : Int) < (n : Int) := by omega
  have h3' : ¬ (60 : Int) < (m : Int) := by omega
  have h4' : ¬ (N : Int) < 0 := by omega
  have h5' : ¬ (60 : Int) < (N : Int) := by omega
  clear hT hl hR hl2 hR2 hi0 hz0 hz1 hz2
  go_enter Tryd.func6, Tryd.ntmps6
  go_wp2_with fail
  refine (alive _ HT.out H0.out).mono ?_
  rintro e w1 ⟨rfl, hb1⟩
  have HB1 := Lib.hid hb1
  clear hb1
  dsimp only
  go_wp2_with fail
  refine (shapes_any A n c of _ HL.out h8 ((HR.out.below HB1.out).more HB1.out.size)).mono ?_
  rintro e w2 ⟨sv, rfl, hsh, hb2⟩
  obtain ⟨sa, sc, rfl, hrs⟩ := ShR.rs hsh (shps_wf (by have := HL.out; omega))
  have HCK := Lib.hid (shps_chk (of := of) (by have := HL.out; omega) (by have := HL.out; omega))
  have HRS := Lib.hid hrs
  have HB2 := Lib.hid (fresh_call HB1.out hb2)
  have HKD := Lib.hid (fun l hl => (shps_kind (of := of) (by have := HL.out; omega) l hl).1)
  have HLN := Lib.hid (shps_len of)
  clear hsh hrs hb2 HB1
  generalize shps of = ls at *
  have hln : 0 < ls.length := by have := HLN.out; have := HL.out; omega
  have hln8 : ls.length ≤ 8 := by have := HLN.out; have := HL.out; omega
  have hln2 : ((ls.length : Int) == 0) = false := by rw [beq_eq_false_iff_ne]; omega
  have hmm := @run_makeMap Tryd.prog
  have H02 := Lib.hid (show 0 < w2.heap.size from Nat.lt_of_lt_of_le H0.out HB2.out.size)
  have HT2 := Lib.hid (HT.out.call HB2.out)
  clear HT HLN
  dsimp only
  go_wp2_with fail
  refine (Hp.new_any 8 sa _ sc ls _ HRS.out HCK.out).mono ?_
  intro e w3 hn
  obtain ⟨B, rfl, hw3⟩ := start_at HT2.out hn
  have H3 := Lib.hid (show Fill w2 w3 B ls 8 0 [] (Hp.start 8) from ⟨hw3, by simp [Hp.start], by decide, by decide, by decide, by decide, fun k s t ht => (by cases ht), (by
    refine (num_of hw3.hp List.Pairwise.nil fun a => ⟨fun h => (by cases h), ?_⟩)
    rintro ⟨⟨k, s⟩, e⟩
    obtain ⟨_, p, hp, _⟩ := hat_addr hw3.hp e
    exact absurd hp (start_none 8 k p)), fun a ha => (by cases ha)⟩)
  have HE := Lib.hid (show LR w2 w3 B (Hp.start 8) [] none 0 from ⟨World.ownsRow_nil _ _ _ _, fun k hk => (by cases hk), fun k hk => (by cases hk)⟩)
  clear hn hw3 HCK
  dsimp only
  go_wp2_with fail
  go_loopw [10, 11, 12, 13, 14] (fun lv iv _ _ _ wr => ∃ (i : Nat) (L : List Int) (A : Option Addr) (c : Nat) (σ : HS), i ≤ N ∧ iv = .int .i64 (i : Int) ∧ lv = .slice A L.length c ∧ L.length ≤ i ∧ Fill w2 wr B ls 8 i L σ ∧ LR w2 wr B σ L A c) (fun _ iv _ _ _ _ => N - (intOf iv).toNat)
  case atStart => exact ⟨0, [], none, 0, _, Nat.zero_le _, rfl, rfl, Nat.le_refl _, H3.out, HE.out⟩
  case round =>
    clear H3 HE
    obtain ⟨i, L, A', c', σ, hi, rfl, rfl, hLi, hf, hr⟩ := hrel
    have HF := Lib.hid hf
    have HRL := Lib.hid hr
    clear hf hr
    by_cases hlt : i < N
    · have hlt2 : (i : Int) < (N : Int) := by omega
      have hmod := tmod_nat i ls.length
      have hmlt : i % ls.length < ls.length := Nat.mod_lt _ hln
      obtain ⟨s, hs⟩ : ∃ s, i % ls.length = s := ⟨_, rfl⟩
      rw [hs] at hmod hmlt
      obtain ⟨l, hlsl⟩ : ∃ l, ls[s]? = some l := ⟨_, List.getElem?_eq_getElem hmlt⟩
      have hlb := HKD.out l (List.mem_of_getElem? hlsl)
      obtain ⟨mm, z, hcm, hcz, hm2, _⟩ := two_slots hlb.1 hlb.2
      have HLS := Lib.hid hlsl
      have HCM := Lib.hid hcm
      clear hcm hcz hs
      have hrsw := HRS.out.keep HF.out.hw.bel
      obtain ⟨sb, so, A1, c1, rfl, hsb, hsc⟩ := rs_at hrsw HLS.out
      have hsb2 : sb < wr.heap.size := by have := HF.out.hw.bel.size; omega
      have hslt : (s : Int) < (ls.length : Int) := by omega
      clear hrsw hlsl
      go_wp2_with (simp only [hmod])
      refine (alloc_any B ls σ s l false _ HF.out.hw.hp HF.out.hw.tab (HF.out.hw.foot0 H02.out) HLS.out (by have := HF.out.sr; have := HF.out.sr0; omega) (by have := HF.out.gv; have := HF.out.gv0; omega)).mono ?_
      intro e w4 ha
      obtain ⟨a, f, rfl, hst⟩ := step_al H02.out HF.out HRL.out hlb.2 ha
      have HST := Lib.hid hst
      clear ha hst hsc hsb2
      dsimp only
      go_upto_region 13 with (fail)
      go_cut [90] from 78 to 90 (fun p wx => ∃ bb : Bool, p = .bool bb ∧ ((bb = true ∧ ∃ σ', Fill w2 wx B ls 8 i L σ' ∧ LR w2 wx B σ' L A' c') ∨ (bb = false ∧ Step w2 wx B ls 8 i L A' c' a f)))
      case first =>
        rcases HST.out with ⟨rfl, σ1, hf, hr⟩ | ⟨rfl, hst⟩
        · have HF1 := Lib.hid hf
          have HR1 := Lib.hid hr
          clear hf hr HST HF HRL
          obtain ⟨A1', c1', hsc4⟩ := rs_cell (HRS.out.keep HF1.out.hw.bel) HLS.out
          have hsb4 : sb < w4.heap.size := by have := HF1.out.hw.bel.size; omega
          go_wp2_with fail
          refine (Cls.rclass_any _ _).mono ?_
          rintro e w5 ⟨rfl, hb5⟩
          have HF5 := Lib.hid (HF1.out.call hb5)
          have HR5 := Lib.hid (HR1.out.call hb5)
          clear hb5 hsc4 hsb4 HF1 HR1
          dsimp only
          go_wp2_with fail
          refine (fresh_any B ls σ1 _ mm _ HF5.out.hw.hp HCM.out (by omega)).mono ?_
          intro e w6 hfr
          obtain ⟨b, rfl, σ2, hf2, hr2⟩ := step_fr H02.out HF5.out HR5.out hfr
          have HF2 := Lib.hid hf2
          have HR2' := Lib.hid hr2
          clear hfr hf2 hr2 HF5 HR5
          dsimp only
          go_wp2_with fail
          go_meet
          cases b
          · exact ⟨false, rfl, .inr ⟨rfl, .inl ⟨rfl, σ2, HF2.out, HR2'.out⟩⟩⟩
          · exact ⟨true, rfl, .inl ⟨rfl, σ2, HF2.out, HR2'.out⟩⟩
        · have HST2 := Lib.hid hst
          clear hst HST
          go_wp2_with fail
          go_meet
          exact ⟨false, rfl, .inr ⟨rfl, .inr ⟨rfl, HST2.out⟩⟩⟩
      case rest =>
        obtain ⟨bb, rfl, hbb⟩ := hcut
        have HBB := Lib.hid hbb
        clear hbb HST HF HRL
        obtain ⟨w3b, rfl⟩ : ∃ w3b : World, w3b = wc := ⟨_, rfl⟩
        go_upto_if 90 with (fail)
        go_cut [13, 14] from 91 to 96 (fun av fv wx => ∃ a f, av = .int .i64 a ∧ fv = .int .i64 f ∧ Step w2 wx B ls 8 i L A' c' a f)
        case first =>
          rcases HBB.out with ⟨rfl, σ1, hf, hr⟩ | ⟨rfl, hst⟩
          · have HF1 := Lib.hid hf
            have HR1 := Lib.hid hr
            clear hf hr HBB
            go_wp2_with fail
            refine (alloc_any B ls σ1 s l false _ HF1.out.hw.hp HF1.out.hw.tab (HF1.out.hw.foot0 H02.out) HLS.out (by have := HF1.out.sr; have := HF1.out.sr0; omega) (by have := HF1.out.gv; have := HF1.out.gv0; omega)).mono ?_
            intro e w5 ha
            obtain ⟨a', f', rfl, hst⟩ := step_al H02.out HF1.out HR1.out hlb.2 ha
            have HST := Lib.hid hst
            clear ha hst HF1 HR1
            dsimp only
            go_wp2_with fail
            go_meet
            exact ⟨_, _, rfl, rfl, HST.out⟩
          · have HST2 := Lib.hid hst
            clear hst HBB
            go_wp2_with fail
            go_meet
            exact ⟨_, _, rfl, rfl, HST2.out⟩
        case rest =>
          obtain ⟨a2, f2, rfl, rfl, hst⟩ := hcut
          have HST2 := Lib.hid hst
          clear hst HBB
          obtain ⟨w4, rfl⟩ : ∃ w4 : World, w4 = wc := ⟨_, rfl⟩
          rcases HST2.out with ⟨rfl, σ1, hf, hr⟩ | ⟨rfl, σ1, hf, hr⟩
          · have HF1 := Lib.hid hf
            have HR1 := Lib.hid hr
            clear hf hr HST2
            go_wp2_with fail
            go_roundw
            case rel => exact ⟨i + 1, L, A', c', σ1, by omega, by go_num, rfl, by omega, HF1.out.more (by omega), HR1.out⟩
            case measure => simp [intOf]; omega
          · have HF1 := Lib.hid hf
            have HR1 := Lib.hid hr
            clear hf hr HST2
            have hsz4 := HF1.out.hw.bel.size
            go_wp2_with (first
              | (at_builtin; go_loud (refine wpList_app _ rfl _ _ 27 rfl w2.heap.size 3 i0 (.int .i64 0) 1 8 Tryd.underlying27 HI.out.1 HI.out.2.1 HI.out.2.2.1 HI.out.2.2.2 rfl (by decide) _ _ _ rfl (HR1.out.own.alloc _) (w4.heap.size + 1) _ 1 1 [.int .i64 a2] rfl (Blk.reads (Blk.new w4 _ _) (by simp) rfl rfl (by decide)) ?c1 ?c2 ?c3 ?c4 ?_))
              | fail)
            case c1 => intro u hu; simp at hu; subst hu; rfl
            case c2 => unfold maxLen; omega
            case c3 => omega
            case c4 => (try simp only [World.size_alloc]); omega
            intro a5 c5 w5 ho5 hg5 hat5
            have hk5 : Kept (fun k => some k = (Value.slice A' L.length c').ownBlock) w4 w5 := (Kept.of_below (fresh_alloc (Below.refl _ _) _) _).step (Kept.of_grown hg5) (fun i _ e => e)
            have hlt5 : ∀ i, HFoot B σ1 i → i < w4.heap.size := fun i hi => HF1.out.hw.hp.lt hi
            have HF5 := Lib.hid (HF1.out.aside H02.out hk5 (fun i e => ⟨HR1.out.far i e.symm, HR1.out.hi i e.symm⟩))
            have HR5 := Lib.hid (HR1.out.app (Nat.le_of_lt HF1.out.hw.hp.z_lt) hlt5 ho5 hat5)
            have hll : (L ++ [a2]).length = L.length + 1 := by simp
            clear ho5 hg5 hat5 hk5 hlt5 HF1 HR1
            go_wp2_with fail
            go_roundw
            case rel => exact ⟨i + 1, L ++ [a2], a5, c5, σ1, by omega, by go_num, by rw [hll], by omega, HF5.out, HR5.out⟩
            case measure => simp [intOf]; omega
    · obtain rfl : i = N := by omega
      have hlt2 : ¬ (i : Int) < (i : Int) := by omega
      have HA := Lib.hid (fresh_alloc (Below.refl wr.heap.size wr) (.map #[] 0))
      have HM0 := Lib.hid (HF.out.mark.call HA.out)
      have HR0 := Lib.hid (HRL.out.call HA.out)
      have HB0 := Lib.hid (show BMap (wr.alloc (.map #[] 0)) wr.heap.size [] (fun x => decide (x ∈ ([] : List Int))) by simpa using BMap.made wr)
      have HFAR := Lib.hid (show ¬ HFoot B σ wr.heap.size from fun e => Nat.lt_irrefl _ (HF.out.hw.hp.lt e))
      have hbz : B.z ≤ wr.heap.size := Nat.le_of_lt HF.out.hw.hp.z_lt
      clear HF HRL HRS HKD
      go_wp2_with fail
      obtain ⟨bm, hbm⟩ : ∃ bm, wr.heap.size = bm := ⟨_, rfl⟩
      rw [hbm] at HB0 HFAR hbz ⊢
      go_loopw [16, 17] (fun iv _ wx => ∃ (q : Nat) (T : List Int) (σ2 : HS), q ≤ m ∧ iv = .int .i64 (q : Int) ∧ T.length ≤ q ∧ Hp.Mark w2 wx B ls 8 σ L T σ2 ∧ LR w2 wx B σ2 L A' c' ∧ BMap wx bm T (fun x => decide (x ∈ T)) ∧ ¬ HFoot B σ2 bm) (fun iv _ _ => m - (intOf iv).toNat)
      case atStart => exact ⟨0, [], σ, Nat.zero_le _, rfl, Nat.le_refl _, HM0.out, HR0.out, HB0.out, HFAR.out⟩
      case round =>
        clear HM0 HR0 HB0 HFAR HA
        obtain ⟨q, T, σ2, hq, rfl, hTq, hmk, hr, hbmp, hfar⟩ := hrel
        have HM := Lib.hid hmk
        have HR1 := Lib.hid hr
        have HBM := Lib.hid hbmp
        have HFB := Lib.hid hfar
        clear hmk hr hbmp hfar
        obtain ⟨w4, rfl⟩ : ∃ w4 : World, w4 = wr := ⟨_, rfl⟩
        go_upto_region 19 with (fail)
        go_cut [112] from 104 to 112 (fun p wx => p = .bool (decide (q < m) && decide (0 < L.length)) ∧ wx = w4)
        case first =>
          by_cases h1 : q < m
          · have h1' : (q : Int) < (m : Int) := by omega
            by_cases h2 : 0 < L.length
            · have h2' : (0 : Int) < (L.length : Int) := by omega
              go_wp2_with fail
              go_meet
              exact ⟨by simp [h1, h2], rfl⟩
            · have h2' : ¬ (0 : Int) < (L.length : Int) := by omega
              go_wp2_with fail
              go_meet
              exact ⟨by simp [h2], rfl⟩
          · have h1' : ¬ (q : Int) < (m : Int) := by omega
            go_wp2_with fail
            go_meet
            exact ⟨by simp [h1], rfl⟩
        case rest =>
        obtain ⟨hp, rfl⟩ := hcut
        subst hp
        by_cases hqm : q < m ∧ 0 < L.length
        · obtain ⟨hqm, hLp⟩ := hqm
          have hbb : (decide (q < m) && decide (0 < L.length)) = true := by simp [hqm, hLp]
          rw [hbb]
          clear hbb
          have hqm2 : (q : Int) < (m : Int) := by omega
          obtain ⟨x, hx⟩ : ∃ x, sh[q]? = some x := ⟨_, List.getElem?_eq_getElem (by have := HL2.out; omega)⟩
          obtain ⟨rb, ro, rfl, hrb, hrc⟩ := (HR2.out.below (fresh_call HB2.out HM.out.hw.bel)).at_ (j := q) (u := .int .i64 x) (by simp [hx])
          obtain ⟨j, hj, hjx⟩ := Bit.idx x L.length (by omega) (by omega)
          obtain ⟨a, ha⟩ : ∃ a, L[j]? = some a := ⟨_, List.getElem?_eq_getElem hj⟩
          obtain ⟨g, rfl⟩ : ∃ g, A' = some ⟨g, 0, none⟩ := by
            rcases HR1.out.own.2 with ⟨_, h⟩ | ⟨g, cap, _, h, _⟩
            · exfalso; omega
            · injection h with h3; exact ⟨g, h3⟩
          have hcell := HR1.out.own.cells (g := g) rfl j (.int .i64 a) (by simp [ints', ha])
          rw [add_form] at hcell
          have hcell : wc.cell? ⟨g, j, none⟩ = some (.int .i64 a) := by simpa using hcell
          have ham := List.mem_of_getElem? ha
          obtain ⟨k, s, t, hh, ht, hcase⟩ := HM.out.here ham
          have hab := hat_bound HM.out.hw.hp hh
          have hL0 : ((L.length : Int) == 0) = false := by rw [beq_eq_false_iff_ne]; omega
          clear hx ha
          go_wp2_with (simp only [hjx])
          rcases hcase with ⟨hne, haT, hmk'⟩ | ⟨he0, haT⟩
          · refine (shade_no B ls σ2 a _ HM.out.hw.hp (by omega) (fun k' s' t' e1 e2 => by
              rw [hh] at e1; cases e1; rw [ht] at e2; cases e2; exact hne)).mono ?_
            rintro e w5 ⟨rfl, hb5⟩
            have HM5 := Lib.hid (HM.out.call hb5)
            have HR5 := Lib.hid (HR1.out.call hb5)
            have HB5 := Lib.hid (HBM.out.block (hb5.block bm HBM.out.lt))
            have HFB5 := HFB
            have hT : addT T a = T := by unfold addT; rw [if_pos haT]
            clear hb5 hcell hrc hmk' HM HR1 HBM hh ht hjx
            rw [← hT] at HM5
            clear hT
            dsimp only
            go_wp2_with (first
              | (at_mapUpdate; go_loud (refine wpList_updB rfl _ _ _ rfl a true rfl rfl rfl HB5.out (by unfold maxLen; omega) (wf_addr hab) ?_; intro w6 hb6 hg6))
              | fail)
            rw [dec_addT] at hb6
            have hk6 := Kept.of_grown hg6
            have HM6 := Lib.hid (HM5.out.aside H02.out hk6 (fun i e => by cases e; exact ⟨HFB5.out, hbz⟩))
            have HR6 := Lib.hid (HR5.out.aside hk6 (fun i e => by cases e; exact own_neM HR5.out.own HB5.out))
            have HB6 := Lib.hid hb6
            clear hb6 hg6 hk6 HM5 HR5 HB5
            go_wp2_with fail
            go_roundw
            case rel => exact ⟨q + 1, addT T a, _, by omega, by go_num, by have := addT_len T a; omega, HM6.out, HR6.out, HB6.out, HFB5.out⟩
            case measure => simp [intOf]; omega
          · refine (shade_yes B ls σ2 a k s t _ HM.out.hw.hp (by omega) hh ht he0).mono ?_
            rintro e w5 ⟨rfl, hat5, hk5⟩
            have HM5 := Lib.hid (HM.out.add H02.out ham hh ht hat5 hk5)
            have HR5 := Lib.hid (HR1.out.kept (σ' := { σ2 with M := put σ2.M k s (some (t.1, t.2.1, 1)) }) hk5 (fun i e => e ▸ foot_bm B σ2) (fun i e => .inl (foot_ps (σ := σ2) rfl e)))
            have HB5 := Lib.hid (HBM.out.block (hk5.block bm HBM.out.lt (fun e => HFB.out (e ▸ foot_bm B σ2))))
            have HFB5 := Lib.hid (show ¬ HFoot B { σ2 with M := put σ2.M k s (some (t.1, t.2.1, 1)) } bm from fun e => HFB.out (foot_ps (σ := σ2) rfl e))
            clear hat5 hk5 hcell hrc HM HR1 HBM hh ht hjx
            generalize ({ σ2 with M := put σ2.M k s (some (t.1, t.2.1, 1)) } : HS) = σ5 at *
            dsimp only
            go_wp2_with (first
              | (at_mapUpdate; go_loud (refine wpList_updB rfl _ _ _ rfl a true rfl rfl rfl HB5.out (by unfold maxLen; omega) (wf_addr hab) ?_; intro w6 hb6 hg6))
              | fail)
            rw [dec_addT] at hb6
            have hk6 := Kept.of_grown hg6
            have HM6 := Lib.hid (HM5.out.aside H02.out hk6 (fun i e => by cases e; exact ⟨HFB5.out, hbz⟩))
            have HR6 := Lib.hid (HR5.out.aside hk6 (fun i e => by cases e; exact own_neM HR5.out.own HB5.out))
            have HB6 := Lib.hid hb6
            clear hb6 hg6 hk6 HM5 HR5 HB5
            go_wp2_with fail
            go_roundw
            case rel => exact ⟨q + 1, addT T a, _, by omega, by go_num, by have := addT_len T a; omega, HM6.out, HR6.out, HB6.out, HFB5.out⟩
            case measure => simp [intOf]; omega
        · have hbb : (decide (q < m) && decide (0 < L.length)) = false := by
            rw [Bool.and_eq_false_iff, decide_eq_false_iff_not, decide_eq_false_iff_not]
            omega
          rw [hbb]
          clear hbb hqm
          go_wp2_with fail
          have HS0 := Lib.hid (Swept.start HM.out.hw)
          have hnl : num σ2 = L.length := HM.out.num
          go_loopw [18, 19] (fun gv kv wx => ∃ (k g : Nat) (σ3 : HS), k ≤ 8 ∧ kv = .int .i64 (k : Int) ∧ gv = .int .i64 (g : Int) ∧ Swept w2 wx B ls σ2 k g σ3 ∧ LR w2 wx B σ3 L A' c' ∧ BMap wx bm T (fun x => decide (x ∈ T)) ∧ ¬ HFoot B σ3 bm) (fun _ kv _ => 8 - (intOf kv).toNat)
          case atStart => exact ⟨0, 0, σ2, by omega, rfl, rfl, HS0.out, HR1.out, HBM.out, HFB.out⟩
          case round =>
            clear HS0 HR1 HBM HFB
            obtain ⟨k, g, σ3, hk, rfl, rfl, hsw, hr, hbmp, hfar⟩ := hrel
            have HS := Lib.hid hsw
            have HR3 := Lib.hid hr
            have HBM := Lib.hid hbmp
            have HFB := Lib.hid hfar
            have hgn := hsw.num
            clear hsw hr hbmp hfar
            obtain ⟨w5, rfl⟩ : ∃ w5 : World, w5 = wr := ⟨_, rfl⟩
            by_cases hk8 : k < 8
            · have hk82 : (k : Int) < 8 := by omega
              go_wp2_with fail
              rcases hg : Ar.get σ3.ps (k : Int) with _ | p
              · refine (sweep_none B ls σ3 k _ HS.out.hw.hp HS.out.hw.tab hg).mono ?_
                rintro e w6 ⟨rfl, hb6⟩
                have HS6 := Lib.hid (HS.out.skip hg hb6)
                have HR6 := Lib.hid (HR3.out.call hb6)
                have HB6 := Lib.hid (HBM.out.block (hb6.block bm HBM.out.lt))
                clear hb6 hg HS HR3 HBM
                dsimp only
                go_wp2_with fail
                go_roundw
                case rel => exact ⟨k + 1, g, σ3, by omega, by go_num, by go_num, HS6.out, HR6.out, HB6.out, HFB.out⟩
                case measure => simp [intOf]; omega
              · obtain ⟨k', hk', hp⟩ := get_some hg
                obtain rfl : k' = k := by omega
                refine (sweep_some B ls σ3 k' p _ HS.out.hw.hp HS.out.hw.tab hp).mono ?_
                intro e w6 hsw
                obtain ⟨gn, σ6, rfl, hs6, hk6, hf6⟩ := HS.out.step H02.out hp hsw
                have hgn6 := hs6.num
                have hgb : g + gn ≤ 60 := by omega
                have HS6 := Lib.hid hs6
                have HR6 := Lib.hid (HR3.out.kept hk6 (foot_sw hp) (fun i e => .inl (hf6 i e)))
                have HB6 := Lib.hid (HBM.out.block (hk6.block bm HBM.out.lt (fun e => HFB.out (foot_sw hp bm e))))
                have HFB6 := Lib.hid (fun e => HFB.out (hf6 bm e))
                clear hs6 hk6 hf6 hsw hp hg HS HR3 HBM
                dsimp only
                go_wp2_with fail
                go_roundw
                case rel => exact ⟨k' + 1, g + gn, σ6, by omega, by go_num, by go_num, HS6.out, HR6.out, HB6.out, HFB6.out⟩
                case measure => simp [intOf]; omega
            · obtain rfl : k = 8 := by omega
              have hk82 : ¬ ((8 : Nat) : Int) < 8 := by omega
              obtain ⟨hd, hgt⟩ := swept_done HM.out HS.out
              have HD := Lib.hid hd
              have HW5 := Lib.hid HS.out.hw
              clear hd HS HM
              go_wp2_with fail
              refine (objects_any B ls σ3 _ HW5.out.hp HW5.out.tab).mono ?_
              rintro e w6 ⟨os, ao, co, rfl, hos, _, hb6⟩
              have hol : os.length = T.length := (obs_len hos).trans HD.out.num
              rw [hol]
              have HW6 := Lib.hid (HW5.out.call hb6)
              have HR6 := Lib.hid (HR3.out.call hb6)
              have HB6 := Lib.hid (HBM.out.block (hb6.block bm HBM.out.lt))
              have hlen := HB6.out.len 3
              have hne1 : ((g : Int) != (L.length : Int) - (T.length : Int)) = false := by
                rw [bne_eq_false_iff_eq]; omega
              have hne2 : ((T.length : Int) != (T.length : Int)) = false := by
                rw [bne_eq_false_iff_eq]
              clear hos hb6 hol HW5 HR3 HBM
              dsimp only
              go_wp2_with fail
              refine (greys_any B ls σ3 _ HW6.out.hp HW6.out.tab).mono ?_
              rw [HD.out.grey]
              rintro e w7 ⟨ag, cg, rfl, _, hb7⟩
              have HW7 := Lib.hid (HW6.out.call hb7)
              have HR7 := Lib.hid (HR6.out.call hb7)
              have HB7 := Lib.hid (HB6.out.block (hb7.block bm HB6.out.lt))
              clear hb7 HW6 HR6 HB6 hlen hne1 hne2
              dsimp only [List.length_nil]
              go_wp2_with fail
              go_loopw [21, 22, 23] (fun iv _ _ wx => ∃ i : Nat, i ≤ L.length ∧ iv = .int .i64 (i : Int) ∧ HW w2 wx B ls σ3 ∧ LR w2 wx B σ3 L A' c' ∧ BMap wx bm T (fun x => decide (x ∈ T))) (fun iv _ _ _ => L.length - (intOf iv).toNat)
              case atStart => exact ⟨0, Nat.zero_le _, rfl, HW7.out, HR7.out, HB7.out⟩
              case round =>
                clear HW7 HR7 HB7
                obtain ⟨r, hr, rfl, hw, hlr, hbmp⟩ := hrel
                have HW8 := Lib.hid hw
                have HR8 := Lib.hid hlr
                have HB8 := Lib.hid hbmp
                clear hw hlr hbmp
                obtain ⟨w8, rfl⟩ : ∃ w8 : World, w8 = wr := ⟨_, rfl⟩
                by_cases hrl : r < L.length
                · have hrl2 : (r : Int) < (L.length : Int) := by omega
                  obtain ⟨a, ha⟩ : ∃ a, L[r]? = some a := ⟨_, List.getElem?_eq_getElem hrl⟩
                  obtain ⟨g9, rfl⟩ : ∃ g9, A' = some ⟨g9, 0, none⟩ := by
                    rcases HR8.out.own.2 with ⟨_, h⟩ | ⟨g9, cap, _, h, _⟩
                    · exfalso; omega
                    · injection h with h3; exact ⟨g9, h3⟩
                  have hcell := HR8.out.own.cells (g := g9) rfl r (.int .i64 a) (by simp [ints', ha])
                  rw [add_form] at hcell
                  have hcell : w8.cell? ⟨g9, r, none⟩ = some (.int .i64 a) := by simpa using hcell
                  have ham := List.mem_of_getElem? ha
                  have hlo := HD.out.lo a ham
                  have hwf : (Lit.int .i64 a).wf = true := HD.out.wf a ham
                  go_wp2_with fail
                  refine (Hp.find_any B ls σ3 a _ HW8.out.hp (by omega)).mono ?_
                  rintro e w9 ⟨rfl, d, rfl⟩
                  have HW9 := Lib.hid (HW8.out.drewN d)
                  have HR9 := Lib.hid (HR8.out.call (below_drewN (Below.refl _ _) d))
                  have HB9 := Lib.hid (show BMap (w8.drewN d) bm T (fun x => decide (x ∈ T)) from HB8.out.block rfl)
                  have hcell9 : (w8.drewN d).cell? ⟨g9, r, none⟩ = some (.int .i64 a) := hcell
                  generalize w8.drewN d = w9 at *
                  have hlk := HB9.out.look a hwf
                  have HAM := Lib.hid ham
                  clear hcell HW8 HR8 HB8 ham ha hwf
                  by_cases haT : a ∈ T
                  · obtain ⟨f1, f2⟩ := HD.out.find a HAM.out haT
                    rw [f1, f2]
                    rw [decide_eq_true haT] at hlk
                    have haa : (a != a) = false := by rw [bne_eq_false_iff_eq]
                    clear f1 f2 haT
                    dsimp only
                    go_wp2_with fail
                    refine (color_any B ls σ3 a _ HW9.out.hp (by omega)).mono ?_
                    rw [HD.out.col a]
                    rintro e w10 ⟨rfl, hb10⟩
                    have HW10 := Lib.hid (HW9.out.call hb10)
                    have HR10 := Lib.hid (HR9.out.call hb10)
                    have HB10 := Lib.hid (HB9.out.block (hb10.block bm HB9.out.lt))
                    clear hb10 HW9 HR9 HB9 hlk hcell9
                    dsimp only
                    go_wp2_with fail
                    go_roundw
                    case rel => exact ⟨r + 1, by omega, by go_num, HW10.out, HR10.out, HB10.out⟩
                    case measure => simp [intOf]; omega
                  · have f2 := HD.out.no a HAM.out haT
                    rw [f2]
                    rw [decide_eq_false haT] at hlk
                    generalize fbase σ3.ps a = fb
                    clear f2 haT
                    dsimp only
                    go_wp2_with fail
                    refine (color_any B ls σ3 a _ HW9.out.hp (by omega)).mono ?_
                    rw [HD.out.col a]
                    rintro e w10 ⟨rfl, hb10⟩
                    have HW10 := Lib.hid (HW9.out.call hb10)
                    have HR10 := Lib.hid (HR9.out.call hb10)
                    have HB10 := Lib.hid (HB9.out.block (hb10.block bm HB9.out.lt))
                    clear hb10 HW9 HR9 HB9 hlk hcell9
                    dsimp only
                    go_wp2_with fail
                    go_roundw
                    case rel => exact ⟨r + 1, by omega, by go_num, HW10.out, HR10.out, HB10.out⟩
                    case measure => simp [intOf]; omega
                · obtain rfl : r = L.length := by omega
                  have hrl2 : ¬ (L.length : Int) < (L.length : Int) := by omega
                  go_wp2_with fail
                  go_ret
                  exact ⟨rfl, fresh_call HB2.out HW8.out.bel⟩
theorem walk (A : Option Addr) (n c : Nat) (of : List Int) (A2 : Option Addr) (m c2 : Nat) (sh : List Int) (N : Int) (w : World) (hT : Tab w) (hl : of.length = n) (_wl : ∀ x ∈ of, (Lit.int .i64 x).wf = true) (hR : Reads w w.heap.size 1 A n c (of.map (.int .i64)))
    (hl2 : sh.length = m) (_wl2 : ∀ x ∈ sh, (Lit.int .i64 x).wf = true) (hR2 : Reads w w.heap.size 1 A2 m c2 (sh.map (.int .i64))) (_w2 : (Lit.int .i64 N).wf = true) :
    Calls Tryd.prog 6 #[.slice A n c, .slice A2 m c2, .int .i64 N] w fun e w' => e = .returned (.bool true) ∧ Below w.heap.size w w' := by
  have hmm : m ≤ 9223372036854775807 := by have := hR2.1; have := hR2.2.1; unfold maxLen at this; omega
  by_cases h : n < 1 ∨ 8 < n ∨ 60 < m ∨ N < 0 ∨ 60 < N
  · exact early A n c A2 m c2 N w hT hmm h
  · obtain ⟨K, rfl⟩ : ∃ K : Nat, N = (K : Int) := ⟨N.toNat, by omega⟩
    exact core A n c of A2 m c2 sh K w hT hl hR hl2 hR2 (by omega) (by omega) (by omega) (by omega)
end Go.Proofs.YtoajbjeiplolnaaDoorR.HeapSweeps
