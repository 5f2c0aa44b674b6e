/- besomlaw20.Build, with no links: a heap with objects, a list of them; which ones is told by the shapes alone. -/
import Derived.Test.YtoajbjeiplolnaaDoorRBrD
import Derived.Test.YtoajbjeiplolnaaDoorRHpS
import Derived.Test.YtoajbjeiplolnaaDoorRHpA
import Derived.Deep.Cut
import Derived.OwnWalk
namespace Go.Proofs.YtoajbjeiplolnaaDoorR.Bd
open Go.RowKit Pg Ar Tm Hp
set_option linter.unusedSimpArgs false
set_option linter.unusedVariables false

theorem two_slots {n0 : Nat} (h1 : 1 ≤ n0) (h2 : n0 ≤ 16) : ∃ m z : Nat, Cls.csl (Cls.cof n0) = (m : Int) ∧ Cls.csz (Cls.cof n0) = (z : Int) ∧ 2 ≤ m ∧ m ≤ 32 ∧ n0 ≤ z ∧ z ≤ 16 ∧ 0 < z := by
  obtain ⟨c0, c1⟩ := Cls.cof_csz (n := (n0 : Int)) (by omega)
  have hb := Cls.cof_bd (n0 : Int)
  have hz := Cls.csz_bd (Cls.cof (n0 : Int))
  have hm : 2 ≤ Cls.csl (Cls.cof (n0 : Int)) ∧ Cls.csl (Cls.cof (n0 : Int)) ≤ 32 := by
    generalize Cls.cof (n0 : Int) = c at *
    have : c = 0 ∨ c = 1 ∨ c = 2 ∨ c = 3 ∨ c = 4 ∨ c = 5 ∨ c = 6 ∨ c = 7 := by omega
    rcases this with rfl | rfl | rfl | rfl | rfl | rfl | rfl | rfl <;> decide
  exact ⟨(Cls.csl (Cls.cof (n0 : Int))).toNat, (Cls.csz (Cls.cof (n0 : Int))).toNat, by omega, by omega, by omega, by omega, by omega, by omega, by omega⟩
theorem rs_cell {w : World} {B n c sb so : Nat} {ls : List (List Int)} (h : Shp.RS w B (some ⟨sb, so, none⟩) n c ls) {j : Nat} {l : List Int} (hl : ls[j]? = some l) : ∃ A' c', w.cell? ⟨sb, so + j, none⟩ = some (.slice A' l.length c') := by
  obtain ⟨b, off, A', c', e, _, h2⟩ := rs_at h hl
  cases e
  exact ⟨A', c', h2⟩
theorem tmod_nat (i n : Nat) : ((i : Int)).tmod (n : Int) = ((i % n : Nat) : Int) := (Int.ofNat_tmod i n).symm
def BuildIs (ls : List (List Int)) (N : Nat) (w : World) (e : Ending) (w' : World) : Prop :=
  ∃ (w0 : World) (B : HB) (sa : Option Addr) (sc : Nat) (L : List Int) (A : Option Addr) (c : Nat) (σ : HS), e = .returned (.tuple #[.pointer (some ⟨B.b, 0, none⟩), .slice sa ls.length sc, .slice A L.length c]) ∧ Below w.heap.size w w0 ∧
    Fill w0 w' B ls 64 N L σ ∧ LR w0 w' B σ L A c ∧ Run ls 64 N (abs σ) L ∧ L.length ≤ N ∧ Shp.RS w0 w0.heap.size sa ls.length sc ls
set_option maxRecDepth 100000 in
set_option maxHeartbeats 2000000 in
theorem build_any (A : Option Addr) (n c : Nat) (of : List Int) (N : Nat) (w : World) (hT : Tab w) (hl : of.length = n) (hR : Reads w w.heap.size 1 A n c (of.map (.int .i64))) (h0 : 1 ≤ n) (h8 : n ≤ 8) (hN : N ≤ 100) {ls : List (List Int)} (hsl : shps of = ls) :
    Calls Tryd.prog 53 #[.slice A n c, .int .i64 (N : Int), .slice none 0 0] w (BuildIs ls N w) := by
  obtain ⟨i0, hi0, hz0, hz1, hz2⟩ := info_parts infoI
  have HI := Lib.hid (⟨hi0, hz0, hz1, hz2⟩ : Tryd.prog.info? 3 = some i0 ∧ i0.zero = some (.int .i64 0) ∧ i0.size = 1 ∧ i0.bytes = 8)
  have HT := Lib.hid hT
  have H0 := Lib.hid hT.1
  have HL := Lib.hid hl
  have HR := Lib.hid hR
  clear hT hl hR hi0 hz0 hz1 hz2
  go_enter Tryd.func53, Tryd.ntmps53
  go_wp2_with fail
  refine (shapes_any A n c of _ HL.out h8 HR.out).mono ?_
  rintro e w2 ⟨sv, rfl, hsh, hb2⟩
  obtain ⟨sa, sc, rfl, hrs⟩ := ShR.rs hsh (shps_wf (by have := HL.out; omega))
  have HCK := Lib.hid (shps_chk (of := of) (by have := HL.out; omega) (by have := HL.out; omega))
  have HRS := Lib.hid hrs
  have HB2 := Lib.hid hb2
  have HKD := Lib.hid (fun l hl => (shps_kind (of := of) (by have := HL.out; omega) l hl).1)
  have HLN := Lib.hid (shps_len of)
  clear hsh hrs hb2
  rw [hsl] at HCK HRS HKD HLN ⊢
  have hln : 0 < ls.length := by have := HLN.out; have := HL.out; omega
  have hln8 : ls.length ≤ 8 := by have := HLN.out; have := HL.out; omega
  have hln2 : ((ls.length : Int) == 0) = false := by rw [beq_eq_false_iff_ne]; omega
  have H02 := Lib.hid (show 0 < w2.heap.size from Nat.lt_of_lt_of_le H0.out HB2.out.size)
  have HT2 := Lib.hid (HT.out.call HB2.out)
  clear HT HLN
  dsimp only
  go_wp2_with fail
  refine (Hp.new_any 64 sa _ sc ls _ HRS.out HCK.out).mono ?_
  intro e w3 hn
  obtain ⟨B, rfl, hw3⟩ := start_at HT2.out hn
  have H3 := Lib.hid (show Fill w2 w3 B ls 64 0 [] (Hp.start 64) from ⟨hw3, by simp [Hp.start], by decide, by decide, by decide, by decide, fun k s t ht => (by cases ht), (by
    refine (num_of hw3.hp List.Pairwise.nil fun a => ⟨fun h => (by cases h), ?_⟩)
    rintro ⟨⟨k, s⟩, e⟩
    obtain ⟨_, p, hp, _⟩ := hat_addr hw3.hp e
    exact absurd hp (start_none 64 k p)), fun a ha => (by cases ha)⟩)
  have HE := Lib.hid (show LR w2 w3 B (Hp.start 64) [] none 0 from ⟨World.ownsRow_nil _ _ _ _, fun k hk => (by cases hk), fun k hk => (by cases hk)⟩)
  have HRU := Lib.hid (show Run ls 64 0 (abs (Hp.start 64)) [] from ⟨by simp [abs, Hp.start], rfl⟩)
  clear hn hw3 HCK
  dsimp only
  go_wp2_with fail
  go_loopw [12, 13, 14, 15, 16] (fun lv iv _ _ _ wr => ∃ (i : Nat) (L : List Int) (A : Option Addr) (c : Nat) (σ : HS), i ≤ N ∧ iv = .int .i64 (i : Int) ∧ lv = .slice A L.length c ∧ L.length ≤ i ∧ Fill w2 wr B ls 64 i L σ ∧ LR w2 wr B σ L A c ∧ Run ls 64 i (abs σ) L) (fun _ iv _ _ _ _ => N - (intOf iv).toNat)
  case atStart => exact ⟨0, [], none, 0, _, Nat.zero_le _, rfl, rfl, Nat.le_refl _, H3.out, HE.out, HRU.out⟩
  case round =>
    clear H3 HE HRU
    obtain ⟨i, L, A', c', σ, hi, rfl, rfl, hLi, hf, hr, hru⟩ := hrel
    have HF := Lib.hid hf
    have HRL := Lib.hid hr
    have HRU := Lib.hid hru
    clear hf hr hru
    by_cases hlt : i < N
    · have hlt2 : (i : Int) < (N : Int) := by omega
      have hmod := tmod_nat i ls.length
      have hmlt : i % ls.length < ls.length := Nat.mod_lt _ hln
      obtain ⟨s, hs⟩ : ∃ s, i % ls.length = s := ⟨_, rfl⟩
      rw [hs] at hmod hmlt
      obtain ⟨l, hlsl⟩ : ∃ l, ls[s]? = some l := ⟨_, List.getElem?_eq_getElem hmlt⟩
      have hlb := HKD.out l (List.mem_of_getElem? hlsl)
      obtain ⟨mm, z, hcm, hcz, hm2, _⟩ := two_slots hlb.1 hlb.2
      have HLS := Lib.hid hlsl
      have HCM := Lib.hid hcm
      have HCL := Lib.hid (show Cls.cof ((ls.getD (i % ls.length) []).length : Int) = Cls.cof (l.length : Int) by rw [hs]; simp [List.getD, hlsl])
      clear hcm hcz hs
      have hrsw := HRS.out.keep HF.out.hw.bel
      obtain ⟨sb, so, A1, c1, rfl, hsb, hsc⟩ := rs_at hrsw HLS.out
      have hsb2 : sb < wr.heap.size := by have := HF.out.hw.bel.size; omega
      have hslt : (s : Int) < (ls.length : Int) := by omega
      clear hrsw hlsl
      go_wp2_with (simp only [hmod])
      refine (alloc_any B ls σ s l false _ HF.out.hw.hp HF.out.hw.tab (HF.out.hw.foot0 H02.out) HLS.out (by have := HF.out.sr; have := HF.out.sr0; omega) (by have := HF.out.gv; have := HF.out.gv0; omega)).mono ?_
      intro e w4 ha
      obtain ⟨a, f, rfl, hst⟩ := mid_al H02.out HF.out HRL.out hlb.2 ha
      have HST := Lib.hid hst
      clear ha hst hsc hsb2
      obtain ⟨A0, hA0⟩ : ∃ A0, abs σ = A0 := ⟨_, rfl⟩
      rw [hA0] at HST HRU
      dsimp only
      go_upto_region 11 with (fail)
      go_cut [69] from 57 to 69 (fun p wx => ∃ bb : Bool, p = .bool bb ∧ ((bb = true ∧ ∃ σ', Fill w2 wx B ls 64 i L σ' ∧ LR w2 wx B σ' L A' c' ∧ NoSlot A0 (Cls.cof (l.length : Int)) ∧ FrR A0 (Cls.cof (l.length : Int)) (abs σ')) ∨ (bb = false ∧ EndB w2 wx B ls 64 i L A' c' (Cls.cof (l.length : Int)) A0 a f)))
      case first =>
        rcases HST.out with ⟨rfl, σ1, hf, hr, he1, hns⟩ | ⟨rfl, σ1, hf, hr, hal⟩
        · have HF1 := Lib.hid hf
          have HR1 := Lib.hid hr
          have HNS := Lib.hid hns
          have HE1 := Lib.hid he1
          clear hf hr hns he1 HST HF HRL
          obtain ⟨A1', c1', hsc4⟩ := rs_cell (HRS.out.keep HF1.out.hw.bel) HLS.out
          have hsb4 : sb < w4.heap.size := by have := HF1.out.hw.bel.size; omega
          go_wp2_with fail
          refine (Cls.rclass_any _ _).mono ?_
          rintro e w5 ⟨rfl, hb5⟩
          have HF5 := Lib.hid (HF1.out.call hb5)
          have HR5 := Lib.hid (HR1.out.call hb5)
          clear hb5 hsc4 hsb4 HF1 HR1
          dsimp only
          go_wp2_with fail
          refine (fresh_any B ls σ1 _ mm _ HF5.out.hw.hp HCM.out (by omega)).mono ?_
          intro e w6 hfr
          obtain ⟨b, rfl, σ2, hf2, hr2, hcase⟩ := mid_fr H02.out HF5.out HR5.out HCM.out hfr
          rw [HE1.out] at hcase
          have HF2 := Lib.hid hf2
          have HR2' := Lib.hid hr2
          have HCS := Lib.hid hcase
          clear hfr hf2 hr2 HF5 HR5 hcase
          dsimp only
          go_wp2_with fail
          go_meet
          rcases HCS.out with ⟨rfl, h1, h2⟩ | ⟨rfl, h1⟩
          · exact ⟨false, rfl, .inr ⟨rfl, .inl ⟨rfl, σ2, HF2.out, HR2'.out, .inr ⟨HNS.out, .inl ⟨h2, h1, rfl⟩⟩⟩⟩⟩
          · exact ⟨true, rfl, .inl ⟨rfl, σ2, HF2.out, HR2'.out, HNS.out, h1⟩⟩
        · have HST2 := Lib.hid (show EndB w2 w4 B ls 64 i L A' c' (Cls.cof (l.length : Int)) A0 a 0 from .inr ⟨rfl, σ1, hf, hr, .inl ⟨a, hal, rfl⟩⟩)
          clear hf hr hal HST
          go_wp2_with fail
          go_meet
          exact ⟨false, rfl, .inr ⟨rfl, HST2.out⟩⟩
      case rest =>
        obtain ⟨bb, rfl, hbb⟩ := hcut
        have HBB := Lib.hid hbb
        clear hbb HST HF HRL
        obtain ⟨w3b, rfl⟩ : ∃ w3b : World, w3b = wc := ⟨_, rfl⟩
        go_upto_if 69 with (fail)
        go_cut [15, 16] from 70 to 75 (fun av fv wx => ∃ a f, av = .int .i64 a ∧ fv = .int .i64 f ∧ EndB w2 wx B ls 64 i L A' c' (Cls.cof (l.length : Int)) A0 a f)
        case first =>
          rcases HBB.out with ⟨rfl, σ1, hf, hr, hns, hfr⟩ | ⟨rfl, hst⟩
          · have HF1 := Lib.hid hf
            have HR1 := Lib.hid hr
            have HNS := Lib.hid hns
            have HFR := Lib.hid hfr
            clear hf hr HBB hns hfr
            go_wp2_with fail
            refine (alloc_any B ls σ1 s l false _ HF1.out.hw.hp HF1.out.hw.tab (HF1.out.hw.foot0 H02.out) HLS.out (by have := HF1.out.sr; have := HF1.out.sr0; omega) (by have := HF1.out.gv; have := HF1.out.gv0; omega)).mono ?_
            intro e w5 ha
            obtain ⟨a', f', rfl, hst⟩ := mid_al H02.out HF1.out HR1.out hlb.2 ha
            have HST := Lib.hid (show EndB w2 w5 B ls 64 i L A' c' (Cls.cof (l.length : Int)) A0 a' f' from by
              rcases hst with ⟨rfl, σ5, g1, g2, g3, g4⟩ | ⟨rfl, σ5, g1, g2, g3⟩
              · exact .inl ⟨rfl, σ5, g1, g2, .inr ⟨HNS.out, .inr ⟨_, HFR.out, .inr ⟨g4, g3, rfl⟩⟩⟩⟩
              · exact .inr ⟨rfl, σ5, g1, g2, .inr ⟨HNS.out, .inr ⟨_, HFR.out, .inl ⟨a', g3, rfl⟩⟩⟩⟩)
            clear ha hst HF1 HR1
            dsimp only
            go_wp2_with fail
            go_meet
            exact ⟨_, _, rfl, rfl, HST.out⟩
          · have HST2 := Lib.hid hst
            clear hst HBB
            go_wp2_with fail
            go_meet
            exact ⟨_, _, rfl, rfl, HST2.out⟩
        case rest =>
          obtain ⟨a2, f2, rfl, rfl, hst⟩ := hcut
          have HST2 := Lib.hid hst
          clear hst HBB
          obtain ⟨w4, rfl⟩ : ∃ w4 : World, w4 = wc := ⟨_, rfl⟩
          rcases HST2.out with ⟨rfl, σ1, hf, hr, hsr⟩ | ⟨rfl, σ1, hf, hr, hsr⟩
          · have HF1 := Lib.hid hf
            have HR1 := Lib.hid hr
            have HRU1 := Lib.hid (show Run ls 64 (i + 1) (abs σ1) L from ⟨A0, L, [], HRU.out, by rw [HCL.out]; exact hsr, by rw [List.append_nil]⟩)
            clear hf hr hsr HST2
            go_wp2_with fail
            go_roundw
            case rel => exact ⟨i + 1, L, A', c', σ1, by omega, by go_num, rfl, by omega, HF1.out.more (by omega), HR1.out, HRU1.out⟩
            case measure => simp [intOf]; omega
          · have HF1 := Lib.hid hf
            have HR1 := Lib.hid hr
            have HRU1 := Lib.hid (show Run ls 64 (i + 1) (abs σ1) (L ++ [a2]) from ⟨A0, L, [a2], HRU.out, by rw [HCL.out]; exact hsr, rfl⟩)
            clear hf hr hsr HST2
            have hsz4 := HF1.out.hw.bel.size
            go_wp2_with (first
              | (at_builtin; go_loud (refine wpList_app _ rfl _ _ 27 rfl w2.heap.size 3 i0 (.int .i64 0) 1 8 Tryd.underlying27 HI.out.1 HI.out.2.1 HI.out.2.2.1 HI.out.2.2.2 rfl (by decide) _ _ _ rfl (HR1.out.own.alloc _) (w4.heap.size + 1) _ 1 1 [.int .i64 a2] rfl (Blk.reads (Blk.new w4 _ _) (by simp) rfl rfl (by decide)) ?c1 ?c2 ?c3 ?c4 ?_))
              | fail)
            case c1 => intro u hu; simp at hu; subst hu; rfl
            case c2 => unfold maxLen; omega
            case c3 => omega
            case c4 => (try simp only [World.size_alloc]); omega
            intro a5 c5 w5 ho5 hg5 hat5
            have hk5 : Kept (fun k => some k = (Value.slice A' L.length c').ownBlock) w4 w5 := (Kept.of_below (fresh_alloc (Below.refl _ _) _) _).step (Kept.of_grown hg5) (fun i _ e => e)
            have hlt5 : ∀ i, HFoot B σ1 i → i < w4.heap.size := fun i hi => HF1.out.hw.hp.lt hi
            have HF5 := Lib.hid (HF1.out.aside H02.out hk5 (fun i e => ⟨HR1.out.far i e.symm, HR1.out.hi i e.symm⟩))
            have HR5 := Lib.hid (HR1.out.app (Nat.le_of_lt HF1.out.hw.hp.z_lt) hlt5 ho5 hat5)
            have hll : (L ++ [a2]).length = L.length + 1 := by simp
            clear ho5 hg5 hat5 hk5 hlt5 HF1 HR1
            go_wp2_with fail
            go_roundw
            case rel => exact ⟨i + 1, L ++ [a2], a5, c5, σ1, by omega, by go_num, by rw [hll], by omega, HF5.out, HR5.out, HRU1.out⟩
            case measure => simp [intOf]; omega
    · obtain rfl : i = N := by omega
      have hlt2 : ¬ (i : Int) < (i : Int) := by omega
      go_wp2_with fail
      go_loopw [17, 18, 19, 20, 21, 22] (fun iv _ _ _ _ _ wx => iv = .int .i64 0 ∧ wx = wr) (fun _ _ _ _ _ _ _ => 0)
      case atStart => exact ⟨rfl, rfl⟩
      case round =>
        obtain ⟨rfl, rfl⟩ := hrel
        go_wp2_with fail
        go_ret3
        exact ⟨w2, B, sa, sc, L, A', c', σ, rfl, HB2.out, HF.out, HRL.out, HRU.out, hLi, HRS.out⟩
end Go.Proofs.YtoajbjeiplolnaaDoorR.Bd
