/- besomlaw20.Build: a heap with objects, a list of them, links between them; all of it told by the arguments alone. -/
import Derived.Test.YtfgpadkoonogpaaDoorLk
import Derived.Test.YtfgpadkoonogpaaDoorGn
import Derived.Test.YtfgpadkoonogpaaDoorHpS
import Derived.Test.YtfgpadkoonogpaaDoorHpA
import Derived.Deep.Cut
import Derived.OwnWalk
namespace Go.Proofs.YtfgpadkoonogpaaDoor.Bd
open Go.RowKit Pg Ar Tm Hp
set_option linter.unusedSimpArgs false
set_option linter.unusedVariables false

theorem two_slots {n0 : Nat} (h1 : 1 ≤ n0) (h2 : n0 ≤ 16) : ∃ m z : Nat, Cls.csl (Cls.cof n0) = (m : Int) ∧ Cls.csz (Cls.cof n0) = (z : Int) ∧ 2 ≤ m ∧ m ≤ 32 ∧ n0 ≤ z ∧ z ≤ 16 ∧ 0 < z := by
  obtain ⟨c0, c1⟩ := Cls.cof_csz (n := (n0 : Int)) (by omega)
  have hb := Cls.cof_bd (n0 : Int)
  have hz := Cls.csz_bd (Cls.cof (n0 : Int))
  have hm : 2 ≤ Cls.csl (Cls.cof (n0 : Int)) ∧ Cls.csl (Cls.cof (n0 : Int)) ≤ 32 := by
    generalize Cls.cof (n0 : Int) = c at *
    have : c = 0 ∨ c = 1 ∨ c = 2 ∨ c = 3 ∨ c = 4 ∨ c = 5 ∨ c = 6 ∨ c = 7 := by omega
    rcases this with rfl | rfl | rfl | rfl | rfl | rfl | rfl | rfl <;> decide
  exact ⟨(Cls.csl (Cls.cof (n0 : Int))).toNat, (Cls.csz (Cls.cof (n0 : Int))).toNat, by omega, by omega, by omega, by omega, by omega, by omega, by omega⟩
theorem rs_cell {w : World} {B n c sb so : Nat} {ls : List (List Int)} (h : Shp.RS w B (some ⟨sb, so, none⟩) n c ls) {j : Nat} {l : List Int} (hl : ls[j]? = some l) : ∃ A' c', w.cell? ⟨sb, so + j, none⟩ = some (.slice A' l.length c') := by
  obtain ⟨b, off, A', c', e, _, h2⟩ := rs_at h hl
  cases e
  exact ⟨A', c', h2⟩
theorem start_word {n j : Nat} {v : Int} (h : (Hp.start n).ws[j]? = some v) : v = 0 := by
  unfold Hp.start at h
  dsimp only at h
  rw [List.getElem?_replicate] at h
  split at h
  · exact (Option.some.inj h).symm
  · cases h
theorem tmod_nat (i n : Nat) : ((i : Int)).tmod (n : Int) = ((i % n : Nat) : Int) := (Int.ofNat_tmod i n).symm
def BuildX (ls : List (List Int)) (N : Nat) (lk : List Link) (w : World) (e : Ending) (w' : World) : Prop :=
  ∃ (w0 : World) (B : HB) (sa : Option Addr) (sc : Nat) (L : List Int) (A : Option Addr) (c : Nat) (σ : HS), e = .returned (.tuple #[.pointer (some ⟨B.b, 0, none⟩), .slice sa ls.length sc, .slice A L.length c]) ∧ Below w.heap.size w w0 ∧
    FillX w0 w' B ls 64 N L (lks ls L lk σ) ∧ LR w0 w' B (lks ls L lk σ) L A c ∧ RunX ls 64 N σ L ∧ L.length ≤ N ∧ Shp.RS w0 w0.heap.size sa ls.length sc ls
theorem wf_max {x : Int} (h : (Lit.int .i64 x).wf = true) : x ≤ 9223372036854775807 := by
  have h : (decide (IntKind.i64.min ≤ x) && decide (x ≤ IntKind.i64.max)) = true := h
  rw [show IntKind.i64.min = -9223372036854775808 by decide, show IntKind.i64.max = 9223372036854775807 by decide] at h
  simp only [Bool.and_eq_true, decide_eq_true_eq] at h
  exact h.2
set_option maxRecDepth 100000 in
set_option maxHeartbeats 4000000 in
theorem build_any (A : Option Addr) (n c : Nat) (of : List Int) (N : Nat) (A2 : Option Addr) (m c2 : Nat) (lk : List Link) (w : World) (hT : Tab w) (hl : of.length = n) (hR : Reads w w.heap.size 1 A n c (of.map (.int .i64))) (hl2 : lk.length = m) (hw2 : ∀ q ∈ lk, q.2.2 ≤ 9223372036854775807) (hR2 : Reads w w.heap.size 3 A2 m c2 (tripCells lk)) (h0 : 1 ≤ n) (h8 : n ≤ 8) (hN : N ≤ 100) (hm : m ≤ 1000) {ls : List (List Int)} (hsl : shps of = ls) :
    Calls Tryd.prog 34 #[.slice A n c, .int .i64 (N : Int), .slice A2 m c2] w (BuildX ls N lk w) := by
  obtain ⟨i0, hi0, hz0, hz1, hz2⟩ := info_parts infoI
  have HI := Lib.hid (⟨hi0, hz0, hz1, hz2⟩ : Tryd.prog.info? 3 = some i0 ∧ i0.zero = some (.int .i64 0) ∧ i0.size = 1 ∧ i0.bytes = 8)
  have HT := Lib.hid hT
  have H0 := Lib.hid hT.1
  have HL := Lib.hid hl
  have HR := Lib.hid hR
  have HL2 := Lib.hid hl2
  have HW2 := Lib.hid hw2
  have HR2 := Lib.hid hR2
  clear hT hl hR hl2 hw2 hR2 hi0 hz0 hz1 hz2
  go_enter Tryd.func34, Tryd.ntmps34
  go_wp2_with fail
  refine (shapes_any A n c of _ HL.out h8 HR.out).mono ?_
  rintro e w2 ⟨sv, rfl, hsh, hb2⟩
  obtain ⟨sa, sc, rfl, hrs⟩ := ShR.rs hsh (shps_wf (by have := HL.out; omega))
  have HCK := Lib.hid (shps_chk (of := of) (by have := HL.out; omega) (by have := HL.out; omega))
  have HRS := Lib.hid hrs
  have HB2 := Lib.hid hb2
  have HKD := Lib.hid (fun l hl => (shps_kind (of := of) (by have := HL.out; omega) l hl).1)
  have HLN := Lib.hid (shps_len of)
  clear hsh hrs hb2
  rw [hsl] at HCK HRS HKD HLN ⊢
  have hln : 0 < ls.length := by have := HLN.out; have := HL.out; omega
  have hln8 : ls.length ≤ 8 := by have := HLN.out; have := HL.out; omega
  have hln2 : ((ls.length : Int) == 0) = false := by rw [beq_eq_false_iff_ne]; omega
  have H02 := Lib.hid (show 0 < w2.heap.size from Nat.lt_of_lt_of_le H0.out HB2.out.size)
  have HT2 := Lib.hid (HT.out.call HB2.out)
  clear HT HLN
  dsimp only
  go_wp2_with fail
  refine (Hp.new_any 64 sa _ sc ls _ HRS.out HCK.out).mono ?_
  intro e w3 hn
  obtain ⟨B, rfl, hw3⟩ := start_at HT2.out hn
  have H3 := Lib.hid (show FillX w2 w3 B ls 64 0 [] (Hp.start 64) from ⟨⟨hw3, by simp [Hp.start], by decide, by decide, by decide, by decide, fun k s t ht => (by cases ht), (by
    refine (num_of hw3.hp List.Pairwise.nil fun a => ⟨fun h => (by cases h), ?_⟩)
    rintro ⟨⟨k, s⟩, e⟩
    obtain ⟨_, p, hp, _⟩ := hat_addr hw3.hp e
    exact absurd hp (start_none 64 k p)), fun a ha => (by cases ha)⟩, List.Pairwise.nil, fun j v hv => .inl (start_word hv)⟩)
  have HE := Lib.hid (show LR w2 w3 B (Hp.start 64) [] none 0 from ⟨World.ownsRow_nil _ _ _ _, fun k hk => (by cases hk), fun k hk => (by cases hk)⟩)
  have HRU := Lib.hid (show RunX ls 64 0 (Hp.start 64) [] from ⟨Same.refl _, rfl⟩)
  clear hn hw3 HCK
  dsimp only
  go_wp2_with fail
  go_loopw [12, 13, 14, 15, 16] (fun lv iv _ _ _ wr => ∃ (i : Nat) (L : List Int) (A : Option Addr) (c : Nat) (σ : HS), i ≤ N ∧ iv = .int .i64 (i : Int) ∧ lv = .slice A L.length c ∧ L.length ≤ i ∧ FillX w2 wr B ls 64 i L σ ∧ LR w2 wr B σ L A c ∧ RunX ls 64 i σ L) (fun _ iv _ _ _ _ => N - (intOf iv).toNat)
  case atStart => exact ⟨0, [], none, 0, _, Nat.zero_le _, rfl, rfl, Nat.le_refl _, H3.out, HE.out, HRU.out⟩
  case round =>
    clear H3 HE HRU
    obtain ⟨i, L, A', c', σ, hi, rfl, rfl, hLi, hf, hr, hru⟩ := hrel
    have HF := Lib.hid hf
    have HRL := Lib.hid hr
    have HRU := Lib.hid hru
    clear hf hr hru
    by_cases hlt : i < N
    · have hlt2 : (i : Int) < (N : Int) := by omega
      have hmod := tmod_nat i ls.length
      have hmlt : i % ls.length < ls.length := Nat.mod_lt _ hln
      obtain ⟨s, hs⟩ : ∃ s, i % ls.length = s := ⟨_, rfl⟩
      rw [hs] at hmod hmlt
      obtain ⟨l, hlsl⟩ : ∃ l, ls[s]? = some l := ⟨_, List.getElem?_eq_getElem hmlt⟩
      have hlb := HKD.out l (List.mem_of_getElem? hlsl)
      obtain ⟨mm, z, hcm, hcz, hm2, _⟩ := two_slots hlb.1 hlb.2
      have HLS := Lib.hid hlsl
      have HCM := Lib.hid hcm
      have HCL := Lib.hid (show ls.getD (i % ls.length) [] = l ∧ i % ls.length = s from ⟨by rw [hs]; simp [List.getD, hlsl], hs⟩)
      clear hcm hcz hs
      have hrsw := HRS.out.keep HF.out.hw.bel
      obtain ⟨sb, so, A1, c1, rfl, hsb, hsc⟩ := rs_at hrsw HLS.out
      have hsb2 : sb < wr.heap.size := by have := HF.out.hw.bel.size; omega
      have hslt : (s : Int) < (ls.length : Int) := by omega
      clear hrsw hlsl
      go_wp2_with (simp only [hmod])
      refine (alloc_any B ls σ s l false _ HF.out.hw.hp HF.out.hw.tab (HF.out.hw.foot0 H02.out) HLS.out (by have := HF.out.sr; have := HF.out.sr0; omega) (by have := HF.out.gv; have := HF.out.gv0; omega)).mono ?_
      intro e w4 ha
      obtain ⟨a, f, rfl, hst⟩ := mid_alx H02.out HF.out HRL.out hlb.2 ha
      have HST := Lib.hid hst
      clear ha hst hsc hsb2
      dsimp only
      go_upto_region 11 with (fail)
      go_cut [69] from 57 to 69 (fun p wx => ∃ bb : Bool, p = .bool bb ∧ ((bb = true ∧ ∃ σ', FillX w2 wx B ls 64 i L σ' ∧ LR w2 wx B σ' L A' c' ∧ Full σ.ps (Cls.cof (l.length : Int)) σ.ps.length ∧ FrX (Cls.cof (l.length : Int)) σ σ') ∨ (bb = false ∧ EndX w2 wx B ls 64 i L A' c' (Cls.cof (l.length : Int)) s l.length σ a f)))
      case first =>
        rcases HST.out with ⟨rfl, hf, hr, hns⟩ | ⟨rfl, σ1, hf, hr, hal⟩
        · have HF1 := Lib.hid hf
          have HR1 := Lib.hid hr
          have HNS := Lib.hid hns
          clear hf hr hns HST HF HRL
          obtain ⟨A1', c1', hsc4⟩ := rs_cell (HRS.out.keep HF1.out.hw.bel) HLS.out
          have hsb4 : sb < w4.heap.size := by have := HF1.out.hw.bel.size; omega
          go_wp2_with fail
          refine (Cls.rclass_any _ _).mono ?_
          rintro e w5 ⟨rfl, hb5⟩
          have HF5 := Lib.hid (HF1.out.call hb5)
          have HR5 := Lib.hid (HR1.out.call hb5)
          clear hb5 hsc4 hsb4 HF1 HR1
          dsimp only
          go_wp2_with fail
          refine (fresh_any B ls σ _ mm _ HF5.out.hw.hp HCM.out (by omega)).mono ?_
          intro e w6 hfr
          obtain ⟨b, rfl, hcase⟩ := mid_frx H02.out HF5.out HR5.out HCM.out hfr
          have HCS := Lib.hid hcase
          clear hfr HF5 HR5 hcase
          dsimp only
          go_wp2_with fail
          go_meet
          rcases HCS.out with ⟨rfl, h1, h2, h3⟩ | ⟨rfl, σ2, h1, h2, h3⟩
          · exact ⟨false, rfl, .inr ⟨rfl, .inl ⟨rfl, σ, h1, h2, .inr ⟨HNS.out, .inl ⟨h3, Same.refl σ, rfl⟩⟩⟩⟩⟩
          · exact ⟨true, rfl, .inl ⟨rfl, σ2, h1, h2, HNS.out, h3⟩⟩
        · have HST2 := Lib.hid (show EndX w2 w4 B ls 64 i L A' c' (Cls.cof (l.length : Int)) s l.length σ a 0 from .inr ⟨rfl, σ1, hf, hr, .inl ⟨a, hal, rfl⟩⟩)
          clear hf hr hal HST
          go_wp2_with fail
          go_meet
          exact ⟨false, rfl, .inr ⟨rfl, HST2.out⟩⟩
      case rest =>
        obtain ⟨bb, rfl, hbb⟩ := hcut
        have HBB := Lib.hid hbb
        clear hbb HST HF HRL
        obtain ⟨w3b, rfl⟩ : ∃ w3b : World, w3b = wc := ⟨_, rfl⟩
        go_upto_if 69 with (fail)
        go_cut [15, 16] from 70 to 75 (fun av fv wx => ∃ a f, av = .int .i64 a ∧ fv = .int .i64 f ∧ EndX w2 wx B ls 64 i L A' c' (Cls.cof (l.length : Int)) s l.length σ a f)
        case first =>
          rcases HBB.out with ⟨rfl, σ1, hf, hr, hns, hfr⟩ | ⟨rfl, hst⟩
          · have HF1 := Lib.hid hf
            have HR1 := Lib.hid hr
            have HNS := Lib.hid hns
            have HFR := Lib.hid hfr
            clear hf hr HBB hns hfr
            go_wp2_with fail
            refine (alloc_any B ls σ1 s l false _ HF1.out.hw.hp HF1.out.hw.tab (HF1.out.hw.foot0 H02.out) HLS.out (by have := HF1.out.sr; have := HF1.out.sr0; omega) (by have := HF1.out.gv; have := HF1.out.gv0; omega)).mono ?_
            intro e w5 ha
            obtain ⟨a', f', rfl, hst⟩ := mid_alx H02.out HF1.out HR1.out hlb.2 ha
            have HST := Lib.hid (show EndX w2 w5 B ls 64 i L A' c' (Cls.cof (l.length : Int)) s l.length σ a' f' from by
              rcases hst with ⟨rfl, g1, g2, g3⟩ | ⟨rfl, σ5, g1, g2, g3⟩
              · exact .inl ⟨rfl, σ1, g1, g2, .inr ⟨HNS.out, .inr ⟨σ1, HFR.out, .inr ⟨g3, Same.refl _, rfl⟩⟩⟩⟩
              · exact .inr ⟨rfl, σ5, g1, g2, .inr ⟨HNS.out, .inr ⟨σ1, HFR.out, .inl ⟨a', g3, rfl⟩⟩⟩⟩)
            clear ha hst HF1 HR1
            dsimp only
            go_wp2_with fail
            go_meet
            exact ⟨_, _, rfl, rfl, HST.out⟩
          · have HST2 := Lib.hid hst
            clear hst HBB
            go_wp2_with fail
            go_meet
            exact ⟨_, _, rfl, rfl, HST2.out⟩
        case rest =>
          obtain ⟨a2, f2, rfl, rfl, hst⟩ := hcut
          have HST2 := Lib.hid hst
          clear hst HBB
          obtain ⟨w4, rfl⟩ : ∃ w4 : World, w4 = wc := ⟨_, rfl⟩
          rcases HST2.out with ⟨rfl, σ1, hf, hr, hsr⟩ | ⟨rfl, σ1, hf, hr, hsr⟩
          · have HF1 := Lib.hid hf
            have HR1 := Lib.hid hr
            have HRU1 := Lib.hid (show RunX ls 64 (i + 1) σ1 L from ⟨σ, L, [], HRU.out, by rw [HCL.out.1, HCL.out.2]; exact hsr, by rw [List.append_nil]⟩)
            clear hf hr hsr HST2
            go_wp2_with fail
            go_roundw
            case rel => exact ⟨i + 1, L, A', c', σ1, by omega, by go_num, rfl, by omega, HF1.out.more (by omega), HR1.out, HRU1.out⟩
            case measure => simp [intOf]; omega
          · have HF1 := Lib.hid hf
            have HR1 := Lib.hid hr
            have HRU1 := Lib.hid (show RunX ls 64 (i + 1) σ1 (L ++ [a2]) from ⟨σ, L, [a2], HRU.out, by rw [HCL.out.1, HCL.out.2]; exact hsr, rfl⟩)
            clear hf hr hsr HST2
            have hsz4 := HF1.out.hw.bel.size
            go_wp2_with (first
              | (at_builtin; go_loud (refine wpList_app _ rfl _ _ 27 rfl w2.heap.size 3 i0 (.int .i64 0) 1 8 Tryd.underlying27 HI.out.1 HI.out.2.1 HI.out.2.2.1 HI.out.2.2.2 rfl (by decide) _ _ _ rfl (HR1.out.own.alloc _) (w4.heap.size + 1) _ 1 1 [.int .i64 a2] rfl (Blk.reads (Blk.new w4 _ _) (by simp) rfl rfl (by decide)) ?c1 ?c2 ?c3 ?c4 ?_))
              | fail)
            case c1 => intro u hu; simp at hu; subst hu; rfl
            case c2 => unfold maxLen; omega
            case c3 => omega
            case c4 => (try simp only [World.size_alloc]); omega
            intro a5 c5 w5 ho5 hg5 hat5
            have hk5 : Kept (fun k => some k = (Value.slice A' L.length c').ownBlock) w4 w5 := (Kept.of_below (fresh_alloc (Below.refl _ _) _) _).step (Kept.of_grown hg5) (fun i _ e => e)
            have hlt5 : ∀ i, HFoot B σ1 i → i < w4.heap.size := fun i hi => HF1.out.hw.hp.lt hi
            have HF5 := Lib.hid (HF1.out.aside H02.out hk5 (fun i e => ⟨HR1.out.far i e.symm, HR1.out.hi i e.symm⟩))
            have HR5 := Lib.hid (HR1.out.app (Nat.le_of_lt HF1.out.hw.hp.z_lt) hlt5 ho5 hat5)
            have hll : (L ++ [a2]).length = L.length + 1 := by simp
            clear ho5 hg5 hat5 hk5 hlt5 HF1 HR1
            go_wp2_with fail
            go_roundw
            case rel => exact ⟨i + 1, L ++ [a2], a5, c5, σ1, by omega, by go_num, by rw [hll], by omega, HF5.out, HR5.out, HRU1.out⟩
            case measure => simp [intOf]; omega
    · obtain rfl : i = N := by omega
      have hlt2 : ¬ (i : Int) < (i : Int) := by omega
      obtain ⟨wo, rfl⟩ : ∃ wo : World, wo = wr := ⟨_, rfl⟩
      go_wp2_with fail
      go_loopw [17, 18, 19, 20, 21, 22] (fun iv _ _ _ _ _ wx => ∃ q : Nat, q ≤ m ∧ iv = .int .i64 (q : Int) ∧ FillX w2 wx B ls 64 i L (lks ls L (lk.take q) σ) ∧ LR w2 wx B σ L A' c') (fun iv _ _ _ _ _ _ => m - (intOf iv).toNat)
      case atStart => exact ⟨0, Nat.zero_le _, rfl, HF.out, HRL.out⟩
      case round =>
        clear HF HRL
        obtain ⟨q, hq, rfl, hf, hr⟩ := hrel
        have HF := Lib.hid hf
        have HRL := Lib.hid hr
        clear hf hr
        obtain ⟨w4, rfl⟩ : ∃ w4 : World, w4 = wr := ⟨_, rfl⟩
        go_upto_region 16 with (fail)
        go_cut [90] from 82 to 90 (fun p wx => p = .bool (decide (q < m) && decide (0 < L.length)) ∧ wx = w4)
        case first =>
          by_cases h1 : q < m
          · have h1' : (q : Int) < (m : Int) := by omega
            by_cases h2 : 0 < L.length
            · have h2' : (0 : Int) < (L.length : Int) := by omega
              go_wp2_with fail
              go_meet
              exact ⟨by simp [h1, h2], rfl⟩
            · have h2' : ¬ (0 : Int) < (L.length : Int) := by omega
              go_wp2_with fail
              go_meet
              exact ⟨by simp [h2], rfl⟩
          · have h1' : ¬ (q : Int) < (m : Int) := by omega
            go_wp2_with fail
            go_meet
            exact ⟨by simp [h1], rfl⟩
        case rest =>
        obtain ⟨hp, rfl⟩ := hcut
        subst hp
        obtain ⟨w4, rfl⟩ : ∃ w4 : World, w4 = wc := ⟨_, rfl⟩
        by_cases hqm : q < m ∧ 0 < L.length
        · obtain ⟨hqm, hLp⟩ := hqm
          have hbb : (decide (q < m) && decide (0 < L.length)) = true := by simp [hqm, hLp]
          rw [hbb]
          clear hbb
          have hqm2 : (q : Int) < (m : Int) := by omega
          obtain ⟨x, hx⟩ : ∃ x, lk[q]? = some x := ⟨_, List.getElem?_eq_getElem (by have := HL2.out; omega)⟩
          have HTK := Lib.hid (show lks ls L (lk.take (q + 1)) σ = lk1 ls L (lks ls L (lk.take q) σ) x by
            rw [List.take_add_one, hx]; exact lks_snoc _ _ _ _ _)
          have hx3 := HW2.out x (List.mem_of_getElem? hx)
          have HX := Lib.hid hx
          obtain ⟨rb, ro, rfl, hrb, hc0, hc1, hc2⟩ := (HR2.out.below (fresh_call HB2.out HF.out.hw.bel)).trip hx
          obtain ⟨hj, hjx⟩ := ix_is x.1 hLp (by omega)
          obtain ⟨a, ha⟩ : ∃ a, L[ix x.1 L.length]? = some a := ⟨_, List.getElem?_eq_getElem hj⟩
          have HLA := Lib.hid (show L.getD (ix x.1 L.length) 0 = a by rw [List.getD, ha]; rfl)
          obtain ⟨g, rfl⟩ : ∃ g, A' = some ⟨g, 0, none⟩ := by
            rcases HRL.out.own.2 with ⟨_, h⟩ | ⟨g, cap, _, h, _⟩
            · exfalso; omega
            · injection h with h3; exact ⟨g, h3⟩
          have hcell := HRL.out.own.cells (g := g) rfl (ix x.1 L.length) (.int .i64 a) (by simp [ints', ha])
          rw [add_form] at hcell
          have hcell : w4.cell? ⟨g, ix x.1 L.length, none⟩ = some (.int .i64 a) := by simpa using hcell
          have ham := List.mem_of_getElem? ha
          obtain ⟨⟨pk, ps⟩, hha⟩ := HF.out.at_ a ham
          have hab := hat_bound HF.out.hw.hp hha
          have HHA := Lib.hid hha
          obtain ⟨jx, hjj⟩ : ∃ jx, ix x.1 L.length = jx := ⟨_, rfl⟩
          rw [hjj] at hj hjx hcell
          clear ha hha hjj hx ham
          go_wp2_with fail
          refine (object_any B ls (lks ls L (lk.take q) σ) a _ HF.out.hw.hp (by omega)).mono ?_
          rintro e w5 (⟨h1, _⟩ | ⟨k', s', t, A3, c3, h1, h2, rfl, _, hb5⟩)
          · rw [HHA.out] at h1; cases h1
          have hks := h1.symm.trans HHA.out
          have hks := Option.some.inj hks
          injection hks with e1 e2
          subst e1 e2
          obtain ⟨_, p, hp, _⟩ := hat_addr HF.out.hw.hp HHA.out
          obtain ⟨j, l, htj, hlj, hnl, hl1, _⟩ := nfl_is HF.out.hw.hp h2 hp
          have HLJ := Lib.hid hlj
          have HTT := Lib.hid h2
          have HNL := Lib.hid hnl
          have hjl := (List.getElem?_eq_some_iff.1 hlj).1
          have hl16 := (HF.out.hw.hp.len l (List.mem_of_getElem? hlj)).2
          have hjl2 : (j : Int) < (ls.length : Int) := by omega
          generalize (t.2.2 != 0) = mk
          generalize nfl ls (lks ls L (lk.take q) σ) k' s' = nf
          generalize t.2.1 = se
          have hnew := Blk.new w5 #[.int .i64 a, .int .i64 t.1, .int .i64 se, .slice A3 nf c3, .bool mk] 68
          have hb6 := fresh_alloc hb5 (.cells #[.int .i64 a, .int .i64 t.1, .int .i64 se, .slice A3 nf c3, .bool mk] 68)
          rw [htj] at hnew hb6 ⊢
          have HF6 := Lib.hid (HF.out.call hb6)
          have HRL6 := Lib.hid (HRL.out.call hb6)
          have HNW := Lib.hid hnew
          clear hb6 hnew h1 h2 hp hlj hnl hb5 hc0 hc1 hc2 hcell HF HRL hjx
          obtain ⟨w6, hw6⟩ : ∃ w6, w5.alloc (.cells #[.int .i64 a, .int .i64 (j : Int), .int .i64 se, .slice A3 nf c3, .bool mk] 68) = w6 := ⟨_, rfl⟩
          obtain ⟨bo, hbo⟩ : ∃ bo, w5.heap.size = bo := ⟨_, rfl⟩
          have hsz6 : w6.heap.size = bo + 1 := by rw [← hw6, ← hbo]; simp
          have HSZ := Lib.hid hsz6
          have hlo : bo < w6.heap.size := by omega
          rw [hw6] at HF6 HRL6 HNW
          rw [hbo] at HNW
          have q1 : w6.cell? ⟨bo, 1, none⟩ = some (.int .i64 (j : Int)) := HNW.out.cell 1
          obtain ⟨rb', ro', er, hrb6, d0, d1, d2⟩ := (HR2.out.below (fresh_call HB2.out HF6.out.hw.bel)).trip HX.out
          injection er with er
          injection er with er1 er2
          subst er1 er2
          obtain ⟨sb, so, A4, c4, rfl, hsb, hcs, hri, _⟩ := (HRS.out.keep HF6.out.hw.bel).2.2.2 j l HLJ.out
          have HRI := Lib.hid hri
          have hsz26 := HF6.out.hw.bel.size
          have hszw := (fresh_call HB2.out HF6.out.hw.bel).size
          have hsb6 : sb < w6.heap.size := by omega
          have hrb7 : rb < w6.heap.size := by omega
          obtain ⟨hK16, hK⟩ := ix_is x.2.1 (n := 16) (by omega) (by omega)
          obtain ⟨K, hKK⟩ : ∃ K, ix x.2.1 16 = K := ⟨_, rfl⟩
          have HKK := Lib.hid hKK
          rw [hKK] at hK16 hK
          have hK : (wrap64 (x.2.1.tmod 16 + 16)).tmod 16 = (K : Int) := hK
          have HLK := Lib.hid (lk1_at (x := x) hLp HLA.out HHA.out HTT.out htj HLJ.out hKK)
          clear hri hKK htj hsz6
          by_cases hKl : K < l.length
          · have hKl2 : (K : Int) < (l.length : Int) := by omega
            obtain ⟨z, hz⟩ : ∃ z, l[K]? = some z := ⟨_, List.getElem?_eq_getElem hKl⟩
            obtain ⟨ib, io, rfl, hib, hic⟩ := HRI.out.at_ hz
            have hib6 : ib < w6.heap.size := by omega
            have HZ := Lib.hid hz
            clear hz
            dsimp only
            go_wp2_with fail
            refine (Shp.isptr_any z _).mono ?_
            rintro e w7 ⟨rfl, rfl⟩
            dsimp only
            have HHF := Lib.hid (show hasF ls (lks ls L (lk.take q) σ) a (K : Int) = true by
              unfold hasF
              rw [HHA.out]
              dsimp only
              rw [HNL.out]
              simp [hKl])
            rcases hpz : Shp.isP z with _ | _
            · have HEQ := Lib.hid (HLK.out.2 (by rw [HZ.out]; simp [hpz]))
              clear hpz
              go_wp2_with fail
              go_roundw
              case rel => exact ⟨q + 1, by omega, by go_num, by rw [HTK.out, HEQ.out]; exact HF6.out, HRL6.out⟩
              case measure => simp [intOf]; omega
            · have HEQ := Lib.hid (HLK.out.1 z HZ.out hpz)
              clear hpz
              by_cases ht0 : 0 ≤ x.2.2
              · obtain ⟨jt, hjt⟩ : ∃ jt, x.2.2.toNat % L.length = jt := ⟨_, rfl⟩
                have hjt2 : jt < L.length := by rw [← hjt]; exact Nat.mod_lt _ hLp
                obtain ⟨v, hv⟩ : ∃ v, L[jt]? = some v := ⟨_, List.getElem?_eq_getElem hjt2⟩
                have HLV := Lib.hid (lval_at ht0 hjt hv)
                have hcv := HRL6.out.own.cells (g := g) rfl jt (.int .i64 v) (by simp [ints', hv])
                rw [add_form] at hcv
                have hcv : w6.cell? ⟨g, jt, none⟩ = some (.int .i64 v) := by simpa using hcv
                have hmod2 : x.2.2 % (L.length : Int) = (jt : Int) := by rw [← hjt]; exact emod_toNat ht0 _
                have hmod3 : x.2.2.tmod (L.length : Int) = (jt : Int) := by rw [Int.tmod_eq_emod_of_nonneg ht0]; exact hmod2
                have hVW := Lib.hid (show v ∈ L from List.mem_of_getElem? hv)
                clear hjt hv
                go_wp2_with (first | simp only [hmod2] | simp only [hmod3])
                refine (hstore_yes B ls (lks ls L (lk.take q) σ) a (K : Int) v _ HF6.out.hw.hp (by omega) HHF.out).mono ?_
                rintro e w8 ⟨rfl, hp8, hk8⟩
                have H8 := Lib.hid (link_yes H02.out HF6.out HRL6.out hp8 hk8 (HF6.out.wz.set _ (.inr hVW.out)))
                clear hp8 hk8
                dsimp only
                go_wp2_with fail
                go_roundw
                case rel => exact ⟨q + 1, by omega, by go_num, by rw [HTK.out, HEQ.out, HLV.out]; exact H8.out.1, H8.out.2⟩
                case measure => simp [intOf]; omega
              · have HLV := Lib.hid (show lval L x.2.2 = 0 by unfold lval; rw [if_neg ht0])
                go_wp2_with fail
                refine (hstore_yes B ls (lks ls L (lk.take q) σ) a (K : Int) 0 _ HF6.out.hw.hp (by omega) HHF.out).mono ?_
                rintro e w8 ⟨rfl, hp8, hk8⟩
                have H8 := Lib.hid (link_yes H02.out HF6.out HRL6.out hp8 hk8 (HF6.out.wz.set _ (.inl rfl)))
                clear hp8 hk8
                dsimp only
                go_wp2_with fail
                go_roundw
                case rel => exact ⟨q + 1, by omega, by go_num, by rw [HTK.out, HEQ.out, HLV.out]; exact H8.out.1, H8.out.2⟩
                case measure => simp [intOf]; omega
          · have hKl2 : ¬ (K : Int) < (l.length : Int) := by omega
            have HEQ := Lib.hid (HLK.out.2 (by rw [List.getElem?_eq_none (by omega)]; simp))
            dsimp only
            go_wp2_with fail
            go_roundw
            case rel => exact ⟨q + 1, by omega, by go_num, by rw [HTK.out, HEQ.out]; exact HF6.out, HRL6.out⟩
            case measure => simp [intOf]; omega
        · have hbb : (decide (q < m) && decide (0 < L.length)) = false := by
            rcases Nat.lt_or_ge q m with h1 | h1
            · rcases Nat.eq_zero_or_pos L.length with h2 | h2
              · simp [h2]
              · exact absurd ⟨h1, h2⟩ hqm
            · simp [Nat.not_lt.2 h1]
          have HE := Lib.hid (show lks ls L lk σ = lks ls L (lk.take q) σ by
            rcases Nat.lt_or_ge q m with h1 | h1
            · rcases Nat.eq_zero_or_pos L.length with h2 | h2
              · rw [List.length_eq_zero_iff] at h2
                subst h2
                rw [lks_nil, lks_nil]
              · exact absurd ⟨h1, h2⟩ hqm
            · rw [List.take_of_length_le (by have := HL2.out; omega)])
          rw [hbb]
          clear hbb hqm
          go_wp2_with fail
          go_ret3
          exact ⟨w2, B, sa, sc, L, A', c', σ, rfl, HB2.out, by rw [HE.out]; exact HF.out, HRL.out.lks _ _ _, HRU.out, hLi, HRS.out⟩
end Go.Proofs.YtfgpadkoonogpaaDoor.Bd
