/- The walk of besomlaw21.BrushWhole: it returns true, and writes nothing that was there. -/
import Derived.Test.YtoajbjeiplolnaaDoorRBrA
import Derived.Test.YtoajbjeiplolnaaDoorRBl
import Derived.Test.YtoajbjeiplolnaaDoorRTw
namespace Go.Proofs.YtoajbjeiplolnaaDoorR.BrushWhole
open Go.RowKit Ar Hp Br
set_option linter.unusedSimpArgs false
set_option linter.unusedVariables false

set_option maxRecDepth 100000 in
theorem early (A : Option Addr) (n c : Nat) (N : Int) (A2 : Option Addr) (m c2 : Nat) (k : Int) (w : World) (hT : Pg.Tab w ∧ Tz.Tab w) (hm : m ≤ 9223372036854775807) (h : n < 1 ∨ 8 < n ∨ N < 0 ∨ 80 < N ∨ 60 < m ∨ k < 0 ∨ 64 < k) :
    Calls Tryd.prog 8 #[.slice A n c, .int .i64 N, .slice A2 m c2, .int .i64 k] w fun e w' => e = .returned (.bool true) ∧ Below w.heap.size w w' := by
  have HT := Lib.hid hT
  clear hT
  by_cases h0 : n < 1
  · have h0' : (n : Int) < 1 := by omega
    clear h0
    clear h
    go_enter Tryd.func8, Tryd.ntmps8
    go_wp2_with fail
    refine (Br.alive _ HT.out.1 HT.out.2).mono ?_
    rintro e w1 ⟨rfl, hb⟩
    dsimp only
    go_wp2_with fail
    go_ret
    exact ⟨rfl, hb⟩
  · have h0' : ¬ (n : Int) < 1 := by omega
    by_cases h1 : 8 < n
    · have h1' : (8 : Int) < (n : Int) := by omega
      clear h1
      clear h
      go_enter Tryd.func8, Tryd.ntmps8
      go_wp2_with fail
      refine (Br.alive _ HT.out.1 HT.out.2).mono ?_
      rintro e w1 ⟨rfl, hb⟩
      dsimp only
      go_wp2_with fail
      go_ret
      exact ⟨rfl, hb⟩
    · have h1' : ¬ (8 : Int) < (n : Int) := by omega
      by_cases h2 : N < 0
      · clear h
        go_enter Tryd.func8, Tryd.ntmps8
        go_wp2_with fail
        refine (Br.alive _ HT.out.1 HT.out.2).mono ?_
        rintro e w1 ⟨rfl, hb⟩
        dsimp only
        go_wp2_with fail
        go_ret
        exact ⟨rfl, hb⟩
      · by_cases h3 : 80 < N
        · clear h
          go_enter Tryd.func8, Tryd.ntmps8
          go_wp2_with fail
          refine (Br.alive _ HT.out.1 HT.out.2).mono ?_
          rintro e w1 ⟨rfl, hb⟩
          dsimp only
          go_wp2_with fail
          go_ret
          exact ⟨rfl, hb⟩
        · by_cases h4 : 60 < m
          · have h4' : (60 : Int) < (m : Int) := by omega
            clear h4
            clear h
            go_enter Tryd.func8, Tryd.ntmps8
            go_wp2_with fail
            refine (Br.alive _ HT.out.1 HT.out.2).mono ?_
            rintro e w1 ⟨rfl, hb⟩
            dsimp only
            go_wp2_with fail
            go_ret
            exact ⟨rfl, hb⟩
          · have h4' : ¬ (60 : Int) < (m : Int) := by omega
            by_cases h5 : k < 0
            · clear h
              go_enter Tryd.func8, Tryd.ntmps8
              go_wp2_with fail
              refine (Br.alive _ HT.out.1 HT.out.2).mono ?_
              rintro e w1 ⟨rfl, hb⟩
              dsimp only
              go_wp2_with fail
              go_ret
              exact ⟨rfl, hb⟩
            · have h6 : 64 < k := by omega
              clear h
              go_enter Tryd.func8, Tryd.ntmps8
              go_wp2_with fail
              refine (Br.alive _ HT.out.1 HT.out.2).mono ?_
              rintro e w1 ⟨rfl, hb⟩
              dsimp only
              go_wp2_with fail
              go_ret
              exact ⟨rfl, hb⟩

/-- A row of integers of the call's own. -/
def Row (w : World) (z : Nat) (L : List Int) (A : Option Addr) (c : Nat) : Prop := w.ownsRow z 3 1 (.slice A L.length c) L.length (ints' L)
theorem Row.keep {w w' : World} {z : Nat} {L : List Int} {A : Option Addr} {c : Nat} (h : Row w z L A c) (hb : ∀ i, (Value.slice A L.length c).ownBlock = some i → w'.heap[i]? = w.heap[i]?) : Row w' z L A c := own_block h hb
theorem Row.at_ {w : World} {z : Nat} {L : List Int} {A : Option Addr} {c : Nat} (h : Row w z L A c) {i : Nat} {x : Int} (hx : L[i]? = some x) : ∃ g, A = some ⟨g, 0, none⟩ ∧ w.cell? ⟨g, i, none⟩ = some (.int .i64 x) := by
  obtain ⟨g, rfl⟩ : ∃ g, A = some ⟨g, 0, none⟩ := by
    rcases h.2 with ⟨_, h⟩ | ⟨g, cap, _, h, _⟩
    · have h1 := (List.getElem?_eq_some_iff.1 hx).1
      exact absurd h (by omega)
    · injection h with h3; exact ⟨g, h3⟩
  have hcell := h.cells (g := g) rfl i (.int .i64 x) (by simp [ints', hx])
  rw [add_form] at hcell
  exact ⟨g, rfl, by simpa using hcell⟩
set_option maxRecDepth 100000 in
set_option maxHeartbeats 4000000 in
theorem core (A : Option Addr) (n c : Nat) (of : List Int) (N : Nat) (A2 : Option Addr) (m c2 : Nat) (mk : List Int) (k : Nat) (w : World) (hT : Pg.Tab w ∧ Tz.Tab w) (hl : of.length = n) (hR : Reads w w.heap.size 1 A n c (of.map (.int .i64))) (hl2 : mk.length = m) (hR2 : Reads w w.heap.size 1 A2 m c2 (mk.map (.int .i64))) (h0 : 1 ≤ n) (h8 : n ≤ 8) (hN : N ≤ 80) (hm : m ≤ 60) (hk : k ≤ 64) :
    Calls Tryd.prog 8 #[.slice A n c, .int .i64 (N : Int), .slice A2 m c2, .int .i64 (k : Int)] w fun e w' => e = .returned (.bool true) ∧ Below w.heap.size w w' := by
  have HT := Lib.hid hT
  have HL := Lib.hid hl
  have HR := Lib.hid hR
  have HL2 := Lib.hid hl2
  have HR2 := Lib.hid hR2
  have H0 := Lib.hid (show 0 < w.heap.size ∧ 1 < w.heap.size from ⟨hT.1.1, hT.2.1⟩)
  have h1' : ¬ (n : Int) < 1 := by omega
  have h2' : ¬ (8 : Int) < (n : Int) := by omega
  have h4' : ¬ (N : Int) < 0 := by omega
  have h5' : ¬ (80 : Int) < (N : Int) := by omega
  have h6' : ¬ (60 : Int) < (m : Int) := by omega
  have h7' : ¬ (k : Int) < 0 := by omega
  have h8' : ¬ (64 : Int) < (k : Int) := by omega
  have hmm := @run_makeMap Tryd.prog
  clear hT hl hR hl2 hR2
  go_enter Tryd.func8, Tryd.ntmps8
  go_wp2_with fail
  refine (alive _ HT.out.1 HT.out.2).mono ?_
  rintro e w1 ⟨rfl, hb1⟩
  have HB1 := Lib.hid hb1
  clear hb1
  dsimp only
  go_wp2_with fail
  refine (Bd.build_any A n c of N none 0 0 [] _ (HT.out.1.call HB1.out) HL.out ((HR.out.below HB1.out).more HB1.out.size) rfl (fun q hq => by cases hq) Reads.nil_ h0 h8 (by omega) (by omega) rfl).mono ?_
  rintro e w2 ⟨w01, B1, sa1, sc1, L, A1, c1, σ, rfl, hb01, hf1, hr1, hru1, hLi, _⟩
  have hB01 := fresh_call HB1.out hb01
  have HB2 := Lib.hid (show Below w.heap.size w w2 from fresh_call hB01 hf1.hw.bel)
  have HM1 := Lib.hid (show Hp.Mark w w2 B1 (shps of) 64 σ L [] σ from (hf1.toFill.mark).base hB01)
  have HRW := Lib.hid (show Row w2 w01.heap.size L A1 c1 from hr1.own)
  have HFR := Lib.hid (show ∀ i, (Value.slice A1 L.length c1).ownBlock = some i → ¬ HFoot B1 σ i ∧ w.heap.size ≤ i ∧ i < w2.heap.size from fun i hi => ⟨hr1.far i hi, by have := (hr1.own.lt i hi).1; have := hB01.size; omega, (hr1.own.lt i hi).2⟩)
  have HS1 := Lib.hid (show ∀ i, HFoot B1 σ i → w.heap.size ≤ i ∧ i < w2.heap.size from fun i hi => ⟨HM1.out.hw.foot_new hi, HM1.out.hw.hp.lt hi⟩)
  have hz1 : B1.z ≤ w2.heap.size := Nat.le_of_lt HM1.out.hw.hp.z_lt
  have HRU := Lib.hid hru1
  clear hb01 hf1 hr1 hru1 hB01 HB1
  dsimp only
  go_wp2_with fail
  refine (Bd.build_any A n c of N none 0 0 [] _ (HT.out.1.call HB2.out) HL.out ((HR.out.below HB2.out).more HB2.out.size) rfl (fun q hq => by cases hq) Reads.nil_ h0 h8 (by omega) (by omega) rfl).mono ?_
  rintro e w3 ⟨w02, B2, sa2, sc2, L', A2', c2', τ, rfl, hb02, hf2, _, hru2, _, _⟩
  obtain ⟨hsm, rfl⟩ := RunX.uniq HRU.out hru2
  have hB23 : Below w2.heap.size w2 w3 := fresh_call hb02 hf2.hw.bel
  have HM3 := Lib.hid (HM1.out.call hB23)
  have HB3 := Lib.hid (fresh_call HB2.out hB23)
  have HX3 := Lib.hid (show Hp.Mark w w3 B2 (shps of) 64 τ L [] τ from (hf2.toFill.mark).base (fresh_call HB2.out hb02))
  have hlo2 : w2.heap.size ≤ B2.y := Nat.le_trans hb02.size hf2.hw.newy
  have HRW3 := Lib.hid (HRW.out.keep fun i hi => hB23.block i (HFR.out i hi).2.2)
  have HS2 := Lib.hid (show ∀ i, HFoot B2 τ i → w2.heap.size ≤ i ∧ i < w3.heap.size from fun i hi => ⟨by have := HX3.out.hw.hp.new i hi; have := HX3.out.hw.hp.yz; omega, HX3.out.hw.hp.lt hi⟩)
  have hz2 : B2.z ≤ w3.heap.size := Nat.le_of_lt HX3.out.hw.hp.z_lt
  have hw23 : w.heap.size ≤ w2.heap.size ∧ w2.heap.size ≤ w3.heap.size := ⟨HB2.out.size, hB23.size⟩
  clear hb02 hf2 hru2 hB23 HM1 HRW HB2 HRU HR
  dsimp only
  have hm3 := fresh_alloc (Below.refl w3.heap.size w3) (.map #[] 0)
  have HM4 := Lib.hid (HM3.out.call hm3)
  have HX4 := Lib.hid (HX3.out.call hm3)
  have HRW4 := Lib.hid (HRW3.out.keep fun i hi => hm3.block i (by have := (HFR.out i hi).2.2; omega))
  have HBM4 := Lib.hid (show BMap (w3.alloc (.map #[] 0)) w3.heap.size [] (fun x => decide (x ∈ ([] : List Int))) by simpa using BMap.made w3)
  clear hm3 HM3 HX3 HRW3 HB3
  go_wp2_with fail
  obtain ⟨lo, hlo⟩ : ∃ lo, w2.heap.size = lo := ⟨_, rfl⟩
  obtain ⟨hi, hhi⟩ : ∃ hi, w3.heap.size = hi := ⟨_, rfl⟩
  rw [hhi] at HBM4 HS2 hz2 hw23 ⊢
  rw [hlo] at HS1 HFR HS2 hz1 hlo2 hw23
  generalize w3.alloc (.map #[] 0) = w4 at *
  clear hlo hhi
  have HLW := Lib.hid (show ∀ a, a ∈ L → 1048576 ≤ a ∧ a ≤ 1050624 from fun a ha => by
    obtain ⟨q, hq⟩ := HM4.out.at_ a ha
    exact hat_bound HM4.out.hw.hp hq)
  go_loopw [16, 17] (fun iv _ wr => ∃ (q : Nat) (T : List Int) (σ1 τ1 : HS), q ≤ m ∧ iv = .int .i64 (q : Int) ∧ T.length ≤ q ∧ Hp.Mark w wr B1 (shps of) 64 σ L T σ1 ∧ Hp.Mark w wr B2 (shps of) 64 τ L T τ1 ∧ Row wr w01.heap.size L A1 c1 ∧ BMap wr hi T (fun x => decide (x ∈ T))) (fun iv _ _ => m - (intOf iv).toNat)
  case atStart => exact ⟨0, [], σ, τ, Nat.zero_le _, rfl, Nat.le_refl _, HM4.out, HX4.out, HRW4.out, HBM4.out⟩
  case round =>
    clear HM4 HX4 HRW4 HBM4
    obtain ⟨q, T, σ1, τ1, hq, rfl, hTq, hmk1, hmk2, hrw, hbm⟩ := hrel
    have HM := Lib.hid hmk1
    have HX := Lib.hid hmk2
    have HRW := Lib.hid hrw
    have HBM := Lib.hid hbm
    clear hmk1 hmk2 hrw hbm
    obtain ⟨w5, rfl⟩ : ∃ w5 : World, w5 = wr := ⟨_, rfl⟩
    go_upto_region 9 with (fail)
    go_cut [93] from 85 to 93 (fun p wx => p = .bool (decide (q < m) && decide (0 < L.length)) ∧ wx = w5)
    case first =>
      by_cases h1 : q < m
      · have h1' : (q : Int) < (m : Int) := by omega
        by_cases h2 : 0 < L.length
        · have h2' : (0 : Int) < (L.length : Int) := by omega
          go_wp2_with fail
          go_meet
          exact ⟨by simp [h1, h2], rfl⟩
        · have h2' : ¬ (0 : Int) < (L.length : Int) := by omega
          go_wp2_with fail
          go_meet
          exact ⟨by simp [h2], rfl⟩
      · have h1' : ¬ (q : Int) < (m : Int) := by omega
        go_wp2_with fail
        go_meet
        exact ⟨by simp [h1], rfl⟩
    case rest =>
    obtain ⟨hp, rfl⟩ := hcut
    subst hp
    obtain ⟨w5, rfl⟩ : ∃ w5 : World, w5 = wc := ⟨_, rfl⟩
    by_cases hqm : q < m ∧ 0 < L.length
    · obtain ⟨hqm, hLp⟩ := hqm
      have hbb : (decide (q < m) && decide (0 < L.length)) = true := by simp [hqm, hLp]
      rw [hbb]
      clear hbb
      have hqm2 : (q : Int) < (m : Int) := by omega
      obtain ⟨x, hx⟩ : ∃ x, mk[q]? = some x := ⟨_, List.getElem?_eq_getElem (by have := HL2.out; omega)⟩
      obtain ⟨rb, ro, rfl, hrb, hrc⟩ := (HR2.out.below HM.out.hw.bel).at_ (j := q) (u := .int .i64 x) (by simp [hx])
      obtain ⟨j, hj, hjx⟩ := Bit.idx x L.length (by omega) (by omega)
      obtain ⟨a, ha⟩ : ∃ a, L[j]? = some a := ⟨_, List.getElem?_eq_getElem hj⟩
      obtain ⟨g, hg, hcell⟩ := HRW.out.at_ ha
      have ham := List.mem_of_getElem? ha
      have hab := HLW.out a ham
      have HAM := Lib.hid ham
      have hszw := HM.out.hw.bel.size
      have hrb2 : rb < w5.heap.size := by omega
      subst hg
      clear hx ha ham
      go_wp2_with (simp only [hjx])
      refine (shade_mark w B1 (shps of) 64 σ L T σ1 a _ H0.out.1 HM.out HAM.out).mono ?_
      rintro e w6 ⟨σ6, rfl, hm6, hk6⟩
      have hS6 : ∀ i, i = B1.bm → w.heap.size ≤ i ∧ i < lo := fun i hi => HS1.out i (hi ▸ foot_bm B1 σ)
      have HM6 := Lib.hid hm6
      have HX6 := Lib.hid (HX.out.beneath H0.out.1 hk6 fun i hi => by have := hS6 i hi; omega)
      have HRW6 := Lib.hid (HRW.out.keep fun i hi => hk6.block i (HRW.out.lt i hi).2 (fun e => (HFR.out i hi).1 (by rw [e]; exact foot_bm B1 σ)))
      have HBM6 := Lib.hid (HBM.out.block (hk6.block hi HBM.out.lt (fun e => by have := (hS6 hi e).2; omega)))
      clear hm6 hk6 hcell hrc hjx HM HX HRW HBM
      dsimp only
      go_wp2_with fail
      refine (shade_mark w B2 (shps of) 64 τ L T τ1 a _ H0.out.1 HX6.out HAM.out).mono ?_
      rintro e w7 ⟨τ7, rfl, hm7, hk7⟩
      have hS7 : ∀ i, i = B2.bm → lo ≤ i ∧ i < hi := fun i hi => HS2.out i (hi ▸ foot_bm B2 τ)
      have HX7 := Lib.hid hm7
      have HM7 := Lib.hid (HM6.out.above H0.out.1 (fun i hi => (HS1.out i (HM6.out.foot hi)).2) hz1 hk7 fun i hi => (hS7 i hi).1)
      have HRW7 := Lib.hid (HRW6.out.keep fun i hi => hk7.block i (HRW6.out.lt i hi).2 (fun e => by have := (HFR.out i hi).2.2; have := (hS7 i e).1; omega))
      have HBM7 := Lib.hid (HBM6.out.block (hk7.block hi HBM6.out.lt (fun e => by have := (hS7 hi e).2; omega)))
      clear hm7 hk7 HM6 HX6 HRW6 HBM6
      dsimp only
      go_wp2_with (first
        | (at_mapUpdate; go_loud (refine wpList_updB rfl _ _ _ rfl a true rfl rfl rfl HBM7.out (by unfold maxLen; omega) (wf_addr hab) ?_; intro w8 hb8 hg8))
        | fail)
      rw [dec_addT] at hb8
      have hk8 := Kept.of_grown hg8
      have HM8 := Lib.hid (HM7.out.above H0.out.1 (fun i hi => (HS1.out i (HM7.out.foot hi)).2) hz1 hk8 (fun i e => by cases e; omega))
      have HX8 := Lib.hid (HX7.out.above H0.out.1 (fun i hi => (HS2.out i (HX7.out.foot hi)).2) hz2 hk8 (fun i e => by cases e; omega))
      have HRW8 := Lib.hid (HRW7.out.keep fun i hi => hk8.block i (HRW7.out.lt i hi).2 (fun e => by cases e; have := (HFR.out _ hi).2.2; omega))
      have HB8 := Lib.hid hb8
      clear hb8 hg8 hk8 HM7 HX7 HRW7 HBM7
      go_wp2_with fail
      go_roundw
      case rel => exact ⟨q + 1, addT T a, _, _, by omega, by go_num, by have := addT_len T a; omega, HM8.out, HX8.out, HRW8.out, HB8.out⟩
      case measure => simp [intOf]; omega
    · have hbb : (decide (q < m) && decide (0 < L.length)) = false := by
        rw [Bool.and_eq_false_iff, decide_eq_false_iff_not, decide_eq_false_iff_not]
        omega
      rw [hbb]
      clear hbb hqm HRW HFR
      go_wp2_with fail
      have hA := fresh_alloc (fresh_alloc (Below.refl w5.heap.size w5) (.cells #[.int .u64 0] 86)) (.cells #[.int .u64 0] 86)
      have HM6 := Lib.hid (HM.out.call hA)
      have HX6 := Lib.hid (HX.out.call hA)
      have HBM6 := Lib.hid (HBM.out.block (hA.block hi HBM.out.lt))
      have HA6 := Lib.hid (show BrAt ((w5.alloc (.cells #[.int .u64 0] 86)).alloc (.cells #[.int .u64 0] 86)) w5.heap.size 0 from ⟨(Blk.new w5 #[.int .u64 0] 86).alloc _, by decide⟩)
      have HB6 := Lib.hid (show BrAt ((w5.alloc (.cells #[.int .u64 0] 86)).alloc (.cells #[.int .u64 0] 86)) (w5.heap.size + 1) 0 from ⟨by
        have := Blk.new (w5.alloc (.cells #[.int .u64 0] 86)) #[.int .u64 0] 86
        rwa [World.size_alloc] at this, by decide⟩)
      have hhb : hi < w5.heap.size := HBM.out.lt
      clear hA HM HX HBM HR2
      generalize (w5.alloc (.cells #[.int .u64 0] 86)).alloc (.cells #[.int .u64 0] 86) = w6 at *
      obtain ⟨ba, hba⟩ : ∃ ba, w5.heap.size = ba := ⟨_, rfl⟩
      rw [hba] at HA6 HB6 hhb ⊢
      clear hba
      have HBITS := Lib.hid full_bit
      obtain ⟨FU, hFU⟩ : ∃ FU : Nat, 2 ^ (min (max (64 : Int) 0) 64).toNat - 1 = FU := ⟨_, rfl⟩
      rw [show (18446744073709551615 : Nat) = 2 ^ (min (max (64 : Int) 0) 64).toNat - 1 by decide, hFU] at HBITS
      refine (begin_any ba 0 64 _ HA6.out).mono ?_
      rintro e w7 ⟨rfl, ha7, hk7⟩
      rw [hFU] at ha7
      have HA7 := Lib.hid ha7
      have HM7 := Lib.hid (HM6.out.above H0.out.1 (fun i hi => (HS1.out i (HM6.out.foot hi)).2) hz1 hk7 (fun i e => by subst e; omega))
      have HX7 := Lib.hid (HX6.out.above H0.out.1 (fun i hi => (HS2.out i (HX6.out.foot hi)).2) hz2 hk7 (fun i e => by subst e; omega))
      have HBM7 := Lib.hid (HBM6.out.block (hk7.block hi HBM6.out.lt (by omega)))
      have HB7 := Lib.hid (HB6.out.keep (hk7.block (ba + 1) HB6.out.blk.lt (by omega)))
      clear ha7 hk7 HA6 HB6 HM6 HX6 HBM6
      dsimp only
      go_wp2_with fail
      refine (begin_any (ba + 1) 0 64 _ HB7.out).mono ?_
      rintro e w8 ⟨rfl, hb8, hk8⟩
      rw [hFU] at hb8
      have HB8 := Lib.hid hb8
      have HM8 := Lib.hid (HM7.out.above H0.out.1 (fun i hi => (HS1.out i (HM7.out.foot hi)).2) hz1 hk8 (fun i e => by subst e; omega))
      have HX8 := Lib.hid (HX7.out.above H0.out.1 (fun i hi => (HS2.out i (HX7.out.foot hi)).2) hz2 hk8 (fun i e => by subst e; omega))
      have HBM8 := Lib.hid (HBM7.out.block (hk8.block hi HBM7.out.lt (by omega)))
      have HA8 := Lib.hid (HA7.out.keep (hk8.block ba HA7.out.blk.lt (by omega)))
      clear hb8 hk8 hFU HA7 HB7 HM7 HX7 HBM7
      have hnl : num σ1 = L.length := HM8.out.num
      have hnx : num τ1 = L.length := HX8.out.num
      have HF1 := Lib.hid (show ∀ i, HFoot B1 σ1 i → HFoot B1 σ i from fun i hi => HM8.out.foot hi)
      have HF2 := Lib.hid (show ∀ i, HFoot B2 τ1 i → HFoot B2 τ i from fun i hi => HX8.out.foot hi)
      have hwz1 : 0 < B1.z ∧ 1 < B1.z := by have := HM8.out.hw.new; have := H0.out; omega
      have hwz2 : 0 < B2.z ∧ 1 < B2.z := by have := HX8.out.hw.new; have := H0.out; omega
      dsimp only
      go_wp2_with fail
      go_loopw [20, 21, 22, 23, 24] (fun gv iv _ _ _ wr => ∃ (q g : Nat) (σ2 : HS) (U : Nat), q ≤ k ∧ iv = .int .i64 (q : Int) ∧ gv = .int .i64 (g : Int) ∧ HW w wr B1 (shps of) σ2 ∧ SwP σ1 (fun i => decide (i < q)) g σ2 ∧ (∀ i, HFoot B1 σ2 i → HFoot B1 σ i) ∧ BrAt wr ba U ∧ (∀ i, U.testBit i = decide (q ≤ i ∧ i < 64)) ∧ BrAt wr (ba + 1) FU ∧ HW w wr B2 (shps of) τ1 ∧ BMap wr hi T (fun x => decide (x ∈ T))) (fun _ iv _ _ _ _ => k - (intOf iv).toNat)
      case atStart => exact ⟨0, 0, σ1, FU, Nat.zero_le _, rfl, rfl, HM8.out.hw, (SwP.start σ1).eq (fun i => by simp), HF1.out, HA8.out, fun i => by rw [HBITS.out]; simp, HB8.out, HX8.out.hw, HBM8.out⟩
      case round =>
        clear HA8 HB8 HBM8
        obtain ⟨r, g, σ2, U, hr, rfl, rfl, hw1, hsw, hft, hba, hbits, hbb, hw2, hbm⟩ := hrel
        have HW1 := Lib.hid hw1
        have HSW := Lib.hid hsw
        have HFT := Lib.hid hft
        have HA := Lib.hid hba
        have HBT := Lib.hid hbits
        have HB := Lib.hid hbb
        have HW2 := Lib.hid hw2
        have HBM := Lib.hid hbm
        have hgn := hsw.num
        clear hw1 hsw hft hba hbits hbb hw2 hbm
        obtain ⟨w9, rfl⟩ : ∃ w9 : World, w9 = wr := ⟨_, rfl⟩
        have HTZ := Lib.hid (HT.out.2.call HW1.out.bel)
        have HNF := Lib.hid (show ¬ HFoot B1 σ2 ba from fun e => by have := (HS1.out _ (HFT.out _ e)).2; omega)
        by_cases hrk : r < k
        · have hrk2 : (r : Int) < (k : Int) := by omega
          have hrr : ((r : Int) != (r : Int)) = false := by rw [bne_eq_false_iff_eq]
          go_wp2_with fail
          refine (next_any ba U B1 (shps of) σ2 _ HA.out HW1.out.hp HW1.out.tab HTZ.out HNF.out (by omega) hwz1.1).mono ?_
          rintro e w10 (⟨_, hno, _⟩ | ⟨j, g2, σ3, rfl, hj64, hj, hno, hb10, hs10, hp10, hk10, hf10⟩)
          · have := hno r
            rw [HBT.out, decide_eq_false_iff_not] at this
            exact absurd ⟨Nat.le_refl r, by omega⟩ this
          rw [HBT.out, decide_eq_true_eq] at hj
          obtain rfl : j = r := by
            rcases Nat.lt_or_ge r j with h | h
            · have := hno r h
              rw [HBT.out, decide_eq_false_iff_not] at this
              exact absurd ⟨Nat.le_refl r, by omega⟩ this
            · omega
          have hS10 : ∀ i, (i = ba ∨ HFoot B1 σ2 i) → w.heap.size ≤ i ∧ (i = ba ∨ i < lo) := fun i hi => by
            rcases hi with rfl | hi
            · exact ⟨by omega, .inl rfl⟩
            · have := HS1.out _ (HFT.out _ hi); exact ⟨this.1, .inr this.2⟩
          have HW110 := Lib.hid (HW1.out.with_ H0.out.1 hp10 hk10 fun i hi => (hS10 i hi).1)
          have HSW10 := Lib.hid ((HSW.out.step (by simp) hs10).eq (q := fun i => decide (i < j + 1)) fun i => by
            rw [Bool.eq_iff_iff]; simp; omega)
          have HFT10 := Lib.hid (fun i hi => HFT.out i (hf10 i hi))
          have HA10 := Lib.hid hb10
          have HBT10 := Lib.hid (show ∀ i, (rm U j).testBit i = decide (j + 1 ≤ i ∧ i < 64) from fun i => by
            rw [rm_bit HA.out.lt hj64, HBT.out, Bool.eq_iff_iff]; simp; omega)
          have HB10 := Lib.hid (HB.out.keep (hk10.block (ba + 1) HB.out.blk.lt (fun e => by have := (hS10 _ e).2; omega)))
          have HW210 := Lib.hid (show HW w w10 B2 (shps of) τ1 from HW2.out.with_ H0.out.1 (HW2.out.hp.kept hk10 (fun i hi e => by
            have h1 := hS10 i e
            rcases hi with hi | hi
            · have := HS2.out i (HF2.out i hi); have := (HS2.out i (HF2.out i hi)).2; omega
            · have := HW2.out.hp.yz; omega)) hk10 fun i hi => (hS10 i hi).1)
          have HBM10 := Lib.hid (HBM.out.block (hk10.block hi HBM.out.lt (fun e => by have := (hS10 _ e).2; omega)))
          have hgn10 := HSW10.out.num
          clear hno hj hb10 hs10 hp10 hk10 hf10 hS10 HW1 HSW HFT HA HBT HB HW2 HBM HTZ HNF
          dsimp only
          go_wp2_with fail
          go_roundw
          case rel => exact ⟨j + 1, g + g2, σ3, rm U j, by omega, by go_num, by go_num, HW110.out, HSW10.out, HFT10.out, HA10.out, HBT10.out, HB10.out, HW210.out, HBM10.out⟩
          case measure => simp [intOf]; omega
        · obtain rfl : r = k := by omega
          have hrk2 : ¬ (r : Int) < (r : Int) := by omega
          go_wp2_with fail
          refine (rest_any ba U B1 (shps of) σ2 _ HA.out HW1.out.hp HW1.out.tab HTZ.out HNF.out (by omega) hwz1.1 hwz1.2 (by omega)).mono ?_
          rintro e w10 ⟨g2, σ3, rfl, hb10, hs10, hp10, hk10, hf10⟩
          have hS10 : ∀ i, (i = ba ∨ HFoot B1 σ2 i) → w.heap.size ≤ i ∧ (i = ba ∨ i < lo) := fun i hi => by
            rcases hi with rfl | hi
            · exact ⟨by omega, .inl rfl⟩
            · have := HS1.out _ (HFT.out _ hi); exact ⟨this.1, .inr this.2⟩
          have HW110 := Lib.hid (HW1.out.with_ H0.out.1 hp10 hk10 fun i hi => (hS10 i hi).1)
          have HSW10 := Lib.hid (((HSW.out.trans hs10 (fun i hi => by
            rw [HBT.out]; simp at hi ⊢; omega)).eq (q := fun i => decide (i < 64)) fun i => by
            rw [HBT.out, Bool.eq_iff_iff]; simp; omega).swept HW110.out)
          have HFT10 := Lib.hid (fun i hi => HFT.out i (hf10 i hi))
          have HA10 := Lib.hid hb10
          have HB10 := Lib.hid (HB.out.keep (hk10.block (ba + 1) HB.out.blk.lt (fun e => by have := (hS10 _ e).2; omega)))
          have HW210 := Lib.hid (show HW w w10 B2 (shps of) τ1 from HW2.out.with_ H0.out.1 (HW2.out.hp.kept hk10 (fun i hi e => by
            have h1 := hS10 i e
            rcases hi with hi | hi
            · have := HS2.out i (HF2.out i hi); have := (HS2.out i (HF2.out i hi)).2; omega
            · have := HW2.out.hp.yz; omega)) hk10 fun i hi => (hS10 i hi).1)
          have HBM10 := Lib.hid (HBM.out.block (hk10.block hi HBM.out.lt (fun e => by have := (hS10 _ e).2; omega)))
          have hgn10 := HSW10.out.num
          obtain ⟨hd, hgt⟩ := swept_done HM8.out HSW10.out
          have HD := Lib.hid hd
          clear hd hb10 hs10 hp10 hk10 hf10 hS10 HW1 HSW HFT HA HBT HB HW2 HBM HTZ HNF
          have HTZ10 := Lib.hid (HT.out.2.call HW110.out.bel)
          have HNF2 := Lib.hid (show ¬ HFoot B2 τ1 (ba + 1) from fun e => by have := (HS2.out _ (HF2.out _ e)).2; omega)
          dsimp only
          go_wp2_with fail
          refine (rest_any (ba + 1) FU B2 (shps of) τ1 _ HB10.out HW210.out.hp HW210.out.tab HTZ10.out HNF2.out (by omega) hwz2.1 hwz2.2 (by omega)).mono ?_
          rintro e w11 ⟨g3, τ3, rfl, hb11, hs11, hp11, hk11, hf11⟩
          have hS11 : ∀ i, (i = ba + 1 ∨ HFoot B2 τ1 i) → lo ≤ i ∧ (i = ba + 1 ∨ i < hi) := fun i hi => by
            rcases hi with rfl | hi
            · exact ⟨by omega, .inl rfl⟩
            · have := HS2.out _ (HF2.out _ hi); exact ⟨this.1, .inr this.2⟩
          have HW211 := Lib.hid (HW210.out.with_ H0.out.1 hp11 hk11 fun i hi => by have := (hS11 i hi).1; omega)
          have HSW11 := Lib.hid ((hs11.eq (q := fun i => decide (i < 64)) HBITS.out).swept HW211.out)
          obtain ⟨_, hgt2⟩ := swept_done HX8.out HSW11.out
          have HW111 := Lib.hid (HW110.out.above H0.out.1 (fun i hi => (HS1.out i (HFT10.out i hi)).2) hz1 hk11 fun i hi => (hS11 i hi).1)
          have HA11 := Lib.hid (HA10.out.keep (hk11.block ba HA10.out.blk.lt (fun e => by have := (hS11 _ e).2; omega)))
          have HB11 := Lib.hid hb11
          have HBM11 := Lib.hid (HBM10.out.block (hk11.block hi HBM10.out.lt (fun e => by have := (hS11 _ e).2; omega)))
          obtain ⟨G, hG⟩ : ∃ G, g + g2 = G := ⟨_, rfl⟩
          obtain rfl : g3 = G := by omega
          have hlen := HBM11.out.len 3
          have hne1 : ((g3 : Int) != (L.length : Int) - (T.length : Int)) = false := by
            rw [bne_eq_false_iff_eq]; omega
          have hne2 : ((g3 : Int) != (g3 : Int)) = false := by rw [bne_eq_false_iff_eq]
          have hgg : (g : Int) + (g2 : Int) = (g3 : Int) := by omega
          rw [hgg]
          clear hgg hb11 hs11 hp11 hk11 hf11 hS11 HW110 HA10 HB10 HW210 HBM10 HTZ10 HNF2 HSW10 HSW11 HW211
          have HTZ11 := Lib.hid (HT.out.2.call HW111.out.bel)
          dsimp only
          go_wp2_with fail
          refine (left_any ba 0 _ HA11.out HTZ11.out).mono ?_
          rw [lefts_zero]
          rintro e w12 ⟨a12, c12, rfl, _, hb12⟩
          have HW12 := Lib.hid (HW111.out.call hb12)
          have HA12 := Lib.hid (HA11.out.call hb12)
          have HB12 := Lib.hid (HB11.out.call hb12)
          have HBM12 := Lib.hid (HBM11.out.block (hb12.block hi HBM11.out.lt))
          have HTZ12 := Lib.hid (HTZ11.out.call hb12)
          clear hb12 HW111 HA11 HB11 HBM11 HTZ11 hlen
          have hlen := HBM12.out.len 3
          dsimp only [List.length_nil]
          go_wp2_with fail
          refine (left_any (ba + 1) 0 _ HB12.out HTZ12.out).mono ?_
          rw [lefts_zero]
          rintro e w13 ⟨a13, c13, rfl, _, hb13⟩
          have HW13 := Lib.hid (HW12.out.call hb13)
          have HA13 := Lib.hid (HA12.out.call hb13)
          have HBM13 := Lib.hid (HBM12.out.block (hb13.block hi HBM12.out.lt))
          have HTZ13 := Lib.hid (HTZ12.out.call hb13)
          clear hb13 HW12 HA12 HB12 HBM12 HTZ12 hlen hne1 hne2
          dsimp only [List.length_nil]
          go_wp2_with fail
          refine (objects_any B1 (shps of) σ3 _ HW13.out.hp HW13.out.tab).mono ?_
          rintro e w14 ⟨os, ao, co, rfl, hos, hor, hb14⟩
          have hol : os.length = T.length := (obs_len hos).trans HD.out.num
          have HOS := Lib.hid hos
          have HW14 := Lib.hid (HW13.out.call hb14)
          have HA14 := Lib.hid (HA13.out.call hb14)
          have HBM14 := Lib.hid (HBM13.out.block (hb14.block hi HBM13.out.lt))
          have HOR := Lib.hid hor
          have HLOR := Lib.hid (show ∀ i, (Value.slice ao os.length co).ownBlock = some i → w13.heap.size ≤ i from fun i hi => (hor.lt i hi).1)
          clear hos hb14 hor HW13 HA13 HBM13 HTZ13
          dsimp only
          go_wp2_with fail
          go_loopw [26] (fun iv wr => ∃ q : Nat, q ≤ os.length ∧ iv = .int .i64 (q : Int) ∧ HW w wr B1 (shps of) σ3 ∧ BrAt wr ba 0 ∧ BMap wr hi T (fun x => decide (x ∈ T)) ∧ wr.ownsRow w13.heap.size 68 5 (.slice ao os.length co) os.length (os.flatMap ocs)) (fun iv _ => os.length - (intOf iv).toNat)
          case atStart => exact ⟨0, Nat.zero_le _, rfl, HW14.out, HA14.out, HBM14.out, HOR.out⟩
          case round =>
            clear HW14 HA14 HBM14 HOR
            obtain ⟨q, hq, rfl, hw, hba, hbm, hor⟩ := hrel
            have HW15 := Lib.hid hw
            have HA15 := Lib.hid hba
            have HBM15 := Lib.hid hbm
            have HOR := Lib.hid hor
            clear hw hba hbm hor
            obtain ⟨w15, rfl⟩ : ∃ w15 : World, w15 = wr := ⟨_, rfl⟩
            by_cases hqo : q < os.length
            · have hqo2 : (q : Int) < (os.length : Int) := by omega
              obtain ⟨o, ho⟩ : ∃ o, os[q]? = some o := ⟨_, List.getElem?_eq_getElem hqo⟩
              obtain ⟨a, ha, hoa, kk, ss, tt, hh, ht, e1, e2, e3, e4⟩ := obs_at HOS.out ho
              have hat : a ∈ T := HD.out.back a ⟨_, hh⟩
              have hbd := hat_bound HW15.out.hp hh
              have hcl := HD.out.col a
              have hmk : o.2.2.2.2 = false := by
                rw [e4]
                unfold col at hcl
                rw [hh] at hcl
                dsimp only at hcl
                rw [ht] at hcl
                simpa using hcl
              obtain ⟨g9, rfl⟩ : ∃ g9, ao = some ⟨g9, 0, none⟩ := by
                rcases HOR.out.2 with ⟨_, h⟩ | ⟨g9, cap, _, h, _⟩
                · exfalso; omega
                · injection h with h3; exact ⟨g9, h3⟩
              obtain ⟨hc0, hc4⟩ := ocs_at ho
              rw [hoa] at hc0
              rw [hmk] at hc4
              have hc0 := HOR.out.cells (g := g9) rfl _ _ hc0
              have hc4 := HOR.out.cells (g := g9) rfl _ _ hc4
              rw [add_form] at hc0 hc4
              have hc0 : w15.cell? ⟨g9, q * 5, none⟩ = some (.int .i64 a) := by simpa using hc0
              have hc4 : w15.cell? ⟨g9, q * 5 + 4, none⟩ = some (.bool false) := by simpa using hc4
              have hlk := HBM15.out.look a (wf_addr hbd)
              rw [decide_eq_true hat] at hlk
              clear ho ha hoa hh ht e1 e2 e3 e4 hat hcl hmk
              go_wp2_with fail
              refine (color_any B1 (shps of) σ3 a _ HW15.out.hp (by omega)).mono ?_
              rw [HD.out.col a]
              rintro e w16 ⟨rfl, hb16⟩
              have HW16 := Lib.hid (HW15.out.call hb16)
              have HA16 := Lib.hid (HA15.out.call hb16)
              have HBM16 := Lib.hid (HBM15.out.block (hb16.block hi HBM15.out.lt))
              have HOR16 := Lib.hid (own_block HOR.out fun k hk => hb16.block k (HOR.out.lt k hk).2)
              clear hb16 HW15 HA15 HBM15 HOR hlk hc0 hc4
              dsimp only
              go_wp2_with fail
              go_roundw
              case rel => exact ⟨q + 1, by omega, by go_num, HW16.out, HA16.out, HBM16.out, HOR16.out⟩
              case measure => simp [intOf]; omega
            · obtain rfl : q = os.length := by omega
              have hqo2 : ¬ (os.length : Int) < (os.length : Int) := by omega
              have HTZ15 := Lib.hid (HT.out.2.call HW15.out.bel)
              have HNF15 := Lib.hid (show ¬ HFoot B1 σ3 ba from fun e => by have := (HS1.out _ (HFT10.out _ e)).2; omega)
              go_wp2_with fail
              refine (next_any ba 0 B1 (shps of) σ3 _ HA15.out HW15.out.hp HW15.out.tab HTZ15.out HNF15.out (by omega) hwz1.1).mono ?_
              rintro e w16 (⟨rfl, _, rfl⟩ | ⟨j, g4, σ4, rfl, _, hj, _⟩)
              · have hlen := HBM15.out.len 3
                have hee : ((T.length : Int) == (T.length : Int)) = true := by simp
                dsimp only
                go_wp2_with fail
                refine (rest_any ba 0 B1 (shps of) σ3 _ HA15.out HW15.out.hp HW15.out.tab HTZ15.out HNF15.out (by omega) hwz1.1 hwz1.2 (by omega)).mono ?_
                rintro e w17 ⟨g5, σ5, rfl, _, hs5, _, hk17, _⟩
                obtain rfl : g5 = 0 := hs5.none_ fun i => Nat.zero_testBit i
                have HE := Lib.hid (show Below w.heap.size w w17 from HW15.out.bel.trans (hk17.below HW15.out.bel.size fun i hi e => by
                  rcases e with rfl | e
                  · omega
                  · have := HW15.out.foot_new e; omega))
                clear hs5 hk17
                dsimp only
                go_wp2_with fail
                go_ret
                exact ⟨rfl, HE.out⟩
              · rw [Nat.zero_testBit] at hj; cases hj
theorem walk (A : Option Addr) (n c : Nat) (of : List Int) (N : Int) (A2 : Option Addr) (m c2 : Nat) (mk : List Int) (k : Int) (w : World) (hT : Pg.Tab w ∧ Tz.Tab w) (hl : of.length = n) (_wl : ∀ x ∈ of, (Lit.int .i64 x).wf = true) (hR : Reads w w.heap.size 1 A n c (of.map (.int .i64)))
    (_w1 : (Lit.int .i64 N).wf = true) (hl2 : mk.length = m) (_wl2 : ∀ x ∈ mk, (Lit.int .i64 x).wf = true) (hR2 : Reads w w.heap.size 1 A2 m c2 (mk.map (.int .i64))) (_w2 : (Lit.int .i64 k).wf = true) :
    Calls Tryd.prog 8 #[.slice A n c, .int .i64 N, .slice A2 m c2, .int .i64 k] w fun e w' => e = .returned (.bool true) ∧ Below w.heap.size w w' := by
  have hmm : m ≤ 9223372036854775807 := by have := hR2.1; have := hR2.2.1; unfold maxLen at this; omega
  by_cases h : n < 1 ∨ 8 < n ∨ N < 0 ∨ 80 < N ∨ 60 < m ∨ k < 0 ∨ 64 < k
  · exact early A n c N A2 m c2 k w hT hmm h
  · obtain ⟨M, rfl⟩ : ∃ M : Nat, N = (M : Int) := ⟨N.toNat, by omega⟩
    obtain ⟨K, rfl⟩ : ∃ K : Nat, k = (K : Int) := ⟨k.toNat, by omega⟩
    exact core A n c of M A2 m c2 mk K w hT hl hR hl2 hR2 (by omega) (by omega) (by omega) (by omega) (by omega)
end Go.Proofs.YtoajbjeiplolnaaDoorR.BrushWhole
