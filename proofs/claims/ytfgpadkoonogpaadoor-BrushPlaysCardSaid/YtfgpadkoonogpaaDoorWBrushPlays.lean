/- The walk of besomlaw21.BrushPlays: it returns true, and writes nothing that was there. -/
import Derived.Test.YtfgpadkoonogpaaDoorBrA
import Derived.Test.YtfgpadkoonogpaaDoorBq
import Derived.Deep.CutBlock
import Derived.Deep.CutRange
namespace Go.Proofs.YtfgpadkoonogpaaDoor.BrushPlays
open Go.RowKit Ar Hp Br
set_option linter.unusedSimpArgs false
set_option linter.unusedVariables false

/-- The pages that are left, below one. -/
def wl (r U : Nat) : List Int := (Bit.sl r U.testBit).map fun (i : Nat) => (i : Int)
theorem wl_succ (r U : Nat) : wl (r + 1) U = wl r U ++ if U.testBit r then [(r : Int)] else [] := by
  unfold wl Bit.sl
  rw [List.range_succ, List.filter_append, List.map_append]
  congr 1
  cases h : U.testBit r <;> simp [h]
theorem make64 (w : World) : (Instr.makeSlice 43 (.int .i64 64) (.int .i64 64)).run Tryd.prog w = .ok (.slice (some ⟨w.heap.size, 0, none⟩) 64 64) (w.alloc (.cells (lcs 0) 4)) := by kernel_rfl
set_option maxRecDepth 100000 in
theorem early (A : Option Addr) (n c : Nat) (N : Int) (A2 : Option Addr) (m c2 : Nat) (w : World) (hT : Pg.Tab w ∧ Tz.Tab w) (hm : m ≤ 9223372036854775807) (h : n < 1 ∨ 8 < n ∨ N < 0 ∨ 100 < N ∨ 60 < m) :
    Calls Tryd.prog 5 #[.slice A n c, .int .i64 N, .slice A2 m c2] w fun e w' => e = .returned (.bool true) ∧ Below w.heap.size w w' := by
  have HT := Lib.hid hT
  clear hT
  by_cases h0 : n < 1
  · have h0' : (n : Int) < 1 := by omega
    clear h0
    clear h
    go_enter Tryd.func5, Tryd.ntmps5
    go_wp2_with fail
    refine (Br.alive _ HT.out.1 HT.out.2).mono ?_
    rintro e w1 ⟨rfl, hb⟩
    dsimp only
    go_wp2_with fail
    go_ret
    exact ⟨rfl, hb⟩
  · have h0' : ¬ (n : Int) < 1 := by omega
    by_cases h1 : 8 < n
    · have h1' : (8 : Int) < (n : Int) := by omega
      clear h1
      clear h
      go_enter Tryd.func5, Tryd.ntmps5
      go_wp2_with fail
      refine (Br.alive _ HT.out.1 HT.out.2).mono ?_
      rintro e w1 ⟨rfl, hb⟩
      dsimp only
      go_wp2_with fail
      go_ret
      exact ⟨rfl, hb⟩
    · have h1' : ¬ (8 : Int) < (n : Int) := by omega
      by_cases h2 : N < 0
      · clear h
        go_enter Tryd.func5, Tryd.ntmps5
        go_wp2_with fail
        refine (Br.alive _ HT.out.1 HT.out.2).mono ?_
        rintro e w1 ⟨rfl, hb⟩
        dsimp only
        go_wp2_with fail
        go_ret
        exact ⟨rfl, hb⟩
      · by_cases h3 : 100 < N
        · clear h
          go_enter Tryd.func5, Tryd.ntmps5
          go_wp2_with fail
          refine (Br.alive _ HT.out.1 HT.out.2).mono ?_
          rintro e w1 ⟨rfl, hb⟩
          dsimp only
          go_wp2_with fail
          go_ret
          exact ⟨rfl, hb⟩
        · have h4 : 60 < m := by omega
          have h4' : (60 : Int) < (m : Int) := by omega
          clear h4
          clear h
          go_enter Tryd.func5, Tryd.ntmps5
          go_wp2_with fail
          refine (Br.alive _ HT.out.1 HT.out.2).mono ?_
          rintro e w1 ⟨rfl, hb⟩
          dsimp only
          go_wp2_with fail
          go_ret
          exact ⟨rfl, hb⟩

set_option maxRecDepth 100000 in
set_option maxHeartbeats 8000000 in
theorem core (A : Option Addr) (n c : Nat) (of : List Int) (N : Nat) (A2 : Option Addr) (m c2 : Nat) (pl : List (Value × Value)) (w : World) (hT : Pg.Tab w ∧ Tz.Tab w) (hl : of.length = n) (hR : Reads w w.heap.size 1 A n c (of.map (.int .i64))) (hl2 : pl.length = m)
    (wl : ∀ q ∈ pl, (∃ z, q.1 = .int .i64 z ∧ (Lit.int .i64 z).wf = true) ∧ (∃ z, q.2 = .int .i64 z ∧ (Lit.int .i64 z).wf = true)) (hR2 : Reads w w.heap.size 2 A2 m c2 (pairCells pl)) (h0 : 1 ≤ n) (h8 : n ≤ 8) (hN : N ≤ 100) (hm : m ≤ 60) :
    Calls Tryd.prog 5 #[.slice A n c, .int .i64 (N : Int), .slice A2 m c2] w fun e w' => e = .returned (.bool true) ∧ Below w.heap.size w w' := by
  have HT := Lib.hid hT
  have HL := Lib.hid hl
  have HR := Lib.hid hR
  have HL2 := Lib.hid hl2
  have HWL := Lib.hid wl
  have HR2 := Lib.hid hR2
  have H0 := Lib.hid (show 0 < w.heap.size ∧ 1 < w.heap.size from ⟨hT.1.1, hT.2.1⟩)
  have h1' : ¬ (n : Int) < 1 := by omega
  have h2' : ¬ (8 : Int) < (n : Int) := by omega
  have h4' : ¬ (N : Int) < 0 := by omega
  have h5' : ¬ (100 : Int) < (N : Int) := by omega
  have h6' : ¬ (60 : Int) < (m : Int) := by omega
  have hmk := make64
  obtain ⟨i0, hi0, hz00, hz01, hz02⟩ := info_parts Pg.infoI
  have HI0 := Lib.hid (⟨hi0, hz00, hz01, hz02⟩ : Tryd.prog.info? 3 = some i0 ∧ i0.zero = some (.int .i64 0) ∧ i0.size = 1 ∧ i0.bytes = 8)
  clear hi0 hz00 hz01 hz02
  clear hT hl hR hl2 hR2 wl
  go_enter Tryd.func5, Tryd.ntmps5
  go_wp2_with fail
  refine (Br.alive _ HT.out.1 HT.out.2).mono ?_
  rintro e w1 ⟨rfl, hb1⟩
  have HB1 := Lib.hid hb1
  clear hb1
  dsimp only
  go_wp2_with fail
  refine (Bd.build_any A n c of N none 0 0 [] _ (HT.out.1.call HB1.out) HL.out ((HR.out.below HB1.out).more HB1.out.size) rfl (fun q hq => by cases hq) Reads.nil_ h0 h8 (by omega) (by omega) rfl).mono ?_
  rintro e w2 ⟨w01, B1, sa1, sc1, L, A1, c1, σ, rfl, hb01, hf1, hr1, hru1, hLi, _⟩
  have hB01 := fresh_call HB1.out hb01
  have HB2 := Lib.hid (show Below w.heap.size w w2 from fresh_call hB01 hf1.hw.bel)
  have HM1 := Lib.hid (show Hp.Mark w w2 B1 (shps of) 64 σ L [] σ from (hf1.toFill.mark).base hB01)
  have HRW := Lib.hid (show w2.ownsRow w01.heap.size 3 1 (.slice A1 L.length c1) L.length (ints' L) from hr1.own)
  have HFR := Lib.hid (show ∀ i, (Value.slice A1 L.length c1).ownBlock = some i → ¬ HFoot B1 σ i ∧ w.heap.size ≤ i ∧ i < w2.heap.size from fun i hi => ⟨hr1.far i hi, by have := (hr1.own.lt i hi).1; have := hB01.size; omega, (hr1.own.lt i hi).2⟩)
  have HS1 := Lib.hid (show ∀ i, HFoot B1 σ i → w.heap.size ≤ i ∧ i < w2.heap.size from fun i hi => ⟨HM1.out.hw.foot_new hi, HM1.out.hw.hp.lt hi⟩)
  have hz1 : B1.z ≤ w2.heap.size := Nat.le_of_lt HM1.out.hw.hp.z_lt
  have HRU := Lib.hid hru1
  clear hb01 hf1 hr1 hru1 hB01 HB1
  dsimp only
  go_wp2_with fail
  refine (Bd.build_any A n c of N none 0 0 [] _ (HT.out.1.call HB2.out) HL.out ((HR.out.below HB2.out).more HB2.out.size) rfl (fun q hq => by cases hq) Reads.nil_ h0 h8 (by omega) (by omega) rfl).mono ?_
  rintro e w3 ⟨w02, B2, sa2, sc2, L', A2', c2', τ, rfl, hb02, hf2, _, hru2, _, _⟩
  obtain ⟨hsm, rfl⟩ := RunX.uniq HRU.out hru2
  have hB23 : Below w2.heap.size w2 w3 := fresh_call hb02 hf2.hw.bel
  have HM3 := Lib.hid (HM1.out.call hB23)
  have HB3 := Lib.hid (fresh_call HB2.out hB23)
  have HX3 := Lib.hid (show Hp.Mark w w3 B2 (shps of) 64 τ L [] τ from (hf2.toFill.mark).base (fresh_call HB2.out hb02))
  have hlo2 : w2.heap.size ≤ B2.y := Nat.le_trans hb02.size hf2.hw.newy
  have HRW3 := Lib.hid (show w3.ownsRow w01.heap.size 3 1 (.slice A1 L.length c1) L.length (ints' L) from own_block HRW.out fun i hi => hB23.block i (HFR.out i hi).2.2)
  have HS2 := Lib.hid (show ∀ i, HFoot B2 τ i → w2.heap.size ≤ i ∧ i < w3.heap.size from fun i hi => ⟨by have := HX3.out.hw.hp.new i hi; have := HX3.out.hw.hp.yz; omega, HX3.out.hw.hp.lt hi⟩)
  have hz2 : B2.z ≤ w3.heap.size := Nat.le_of_lt HX3.out.hw.hp.z_lt
  have hw23 : w.heap.size ≤ w2.heap.size ∧ w2.heap.size ≤ w3.heap.size := ⟨HB2.out.size, hB23.size⟩
  clear hb02 hf2 hru2 hB23 HM1 HRW HB2 HRU HR
  dsimp only
  have hA := fresh_alloc (fresh_alloc (fresh_alloc (Below.refl w3.heap.size w3) (.cells #[.int .u64 0] 79)) (.cells #[.slice none 0 0, .slice none 0 0, .slice none 0 0, .slice none 0 0, .slice none 0 0, .slice none 0 0, .slice none 0 0, .slice none 0 0, .slice none 0 0, .slice none 0 0] 38)) (.cells (lcs 0) 4)
  have hbp : BP w (((w3.alloc (.cells #[.int .u64 0] 79)).alloc (.cells #[.slice none 0 0, .slice none 0 0, .slice none 0 0, .slice none 0 0, .slice none 0 0, .slice none 0 0, .slice none 0 0, .slice none 0 0, .slice none 0 0, .slice none 0 0] 38)).alloc (.cells (lcs 0) 4)) B1 B2 (shps of) w2.heap.size w3.heap.size w3.heap.size (w3.heap.size + 1) (w3.heap.size + 2) w01.heap.size L A1 c1 σ τ 0 0 (fun k => k = w3.heap.size + 1) none := by
    have hbk := Book.BookIn.new (w3.alloc (.cells #[.int .u64 0] 79)) (w3.heap.size + 1) (by rw [World.size_alloc]; exact Nat.le_refl _)
    rw [World.size_alloc] at hbk
    have hlf := Blk.new ((w3.alloc (.cells #[.int .u64 0] 79)).alloc (.cells #[.slice none 0 0, .slice none 0 0, .slice none 0 0, .slice none 0 0, .slice none 0 0, .slice none 0 0, .slice none 0 0, .slice none 0 0, .slice none 0 0, .slice none 0 0] 38)) (lcs 0) 4
    rw [World.size_alloc, World.size_alloc] at hlf
    exact ⟨HM3.out.hw.call hA, HX3.out.hw.call hA, HS1.out, hz1, HS2.out, ⟨hlo2, hz2⟩, ⟨((Blk.new w3 #[.int .u64 0] 79).alloc _).alloc _, by decide⟩, hlf, hbk.call (fresh_alloc (Below.refl _ _) _), (fun k hk => by subst hk; omega),
      own_block HRW3.out fun k hk => hA.block k (HRW3.out.lt k hk).2, HFR.out, by omega, (HT.out.2.call HB3.out).call hA, fun b cs e => by cases e⟩
  have HLW := Lib.hid (show ∀ a, a ∈ L → 1048576 ≤ a ∧ a ≤ 1050624 from fun a ha => by
    obtain ⟨q, hq⟩ := HM3.out.at_ a ha
    exact hat_bound HM3.out.hw.hp hq)
  have HSM := Lib.hid hsm
  have HBP := Lib.hid hbp
  clear hsm hbp hA HM3 HX3 HRW3 HB3 HS1 HS2 HFR
  go_wp2_with fail
  obtain ⟨ba, hba⟩ : ∃ ba, w3.heap.size = ba := ⟨_, rfl⟩
  obtain ⟨lo, hlo⟩ : ∃ lo, w2.heap.size = lo := ⟨_, rfl⟩
  obtain ⟨z0, hz0⟩ : ∃ z0, w01.heap.size = z0 := ⟨_, rfl⟩
  obtain ⟨bk, hbk⟩ : ∃ bk, ba + 1 = bk := ⟨_, rfl⟩
  obtain ⟨bl, hbl⟩ : ∃ bl, bk + 1 = bl := ⟨_, rfl⟩
  have hbl2 : ba + 2 = bl := by omega
  obtain ⟨ls, hls⟩ : ∃ ls, shps of = ls := ⟨_, rfl⟩
  rw [hba, hlo, hz0, hbk, hbl2, hls] at HBP
  rw [hba, hbk, hbl, hls]
  generalize ((w3.alloc (.cells #[.int .u64 0] 79)).alloc (.cells #[.slice none 0 0, .slice none 0 0, .slice none 0 0, .slice none 0 0, .slice none 0 0, .slice none 0 0, .slice none 0 0, .slice none 0 0, .slice none 0 0, .slice none 0 0] 38)).alloc (.cells (lcs 0) 4) = w4 at *
  have HNU := Lib.hid (show num σ ≤ 1000000 from by
    have h1 := allOf_len σ.ps σ.ps.length
    have h2 := HBP.out.h1.hp.ar.hn
    unfold num
    omega)
  clear hba hlo hz0 hbk hbl hbl2 hls hz1 hlo2 hz2 hw23
  refine (HBP.out.next H0.out).mono ?_
  rintro e w5 (⟨rfl, _, rfl⟩ | ⟨j, g, σ', _, _, hj, _⟩)
  rotate_left
  · rw [Nat.zero_testBit] at hj
    cases hj
  dsimp only
  go_wp2_with fail
  refine (left_any ba 0 _ HBP.out.br HBP.out.tz).mono ?_
  rw [lefts_zero]
  rintro e w6 ⟨a6, c6, rfl, _, hb6⟩
  have HBP6 := Lib.hid (HBP.out.call hb6)
  clear hb6 HBP
  dsimp only [List.length_nil]
  go_wp2_with fail
  refine (HBP6.out.rest H0.out HNU.out).mono ?_
  rintro e w7 ⟨g, σ7, rfl, hs7, hb7⟩
  obtain ⟨hsm7, hg7⟩ := Same.swP HSM.out (InvX.of hb7.h1.hp) (InvX.of hb7.h2.hp) hs7 ((SwP.start τ).eq fun i => (Nat.zero_testBit i).symm)
  subst hg7
  have hg7 : ((0 : Nat) : Int) = 0 := rfl
  rw [hg7]
  clear hg7
  have HSM7 := Lib.hid hsm7
  have HBP7 := Lib.hid hb7
  clear hs7 hb7 hsm7 HSM HBP6 HNU
  dsimp only
  go_wp2_with fail
  go_loopw [19, 20, 21, 22, 23, 24, 25, 26, 27, 28, 29, 30, 31, 32, 33, 34, 35, 36, 37, 38, 39] (fun iv _ _ _ _ _ _ _ _ _ _ _ _ _ _ _ _ _ _ _ _ wr => ∃ (q : Nat) (σ τ : HS) (U : Nat) (S : Nat → Prop), q ≤ m ∧ iv = .int .i64 (q : Int) ∧ Same σ τ ∧ BP w wr B1 B2 ls lo ba ba bk bl z0 L A1 c1 σ τ U U S none) (fun iv _ _ _ _ _ _ _ _ _ _ _ _ _ _ _ _ _ _ _ _ _ => m - (intOf iv).toNat)
  case atStart => exact ⟨0, _, _, 0, _, Nat.zero_le _, rfl, HSM7.out, HBP7.out⟩
  case round =>
    clear HSM7 HBP7
    obtain ⟨q, σ, τ, U, S, hq, rfl, hsm, hbp⟩ := hrel
    have HSM := Lib.hid hsm
    have HBP := Lib.hid hbp
    clear hsm hbp
    obtain ⟨w4, rfl⟩ : ∃ w4 : World, w4 = wr := ⟨_, rfl⟩
    by_cases hqm : q < m
    · have hqm2 : (q : Int) < (m : Int) := by omega
      have hq0 : (0 : Int) ≤ (q : Int) := by omega
      have hkz : q < pl.length := by have := HL2.out; omega
      obtain ⟨sb, off, rfl, hsb, hs0⟩ := (HR2.out.below HBP.out.h1.bel).at_ (pairCells_at (List.getElem?_eq_getElem hkz)).1
      obtain ⟨sb', off', hA, hsb', hs1⟩ := (HR2.out.below HBP.out.h1.bel).at_ (pairCells_at (List.getElem?_eq_getElem hkz)).2
      injection hA with hA
      injection hA with hA1 hA2
      subst hA1 hA2
      obtain ⟨⟨kind, hkd, _⟩, ⟨X, hN, hXw⟩⟩ := HWL.out _ (List.getElem_mem hkz)
      rw [hkd] at hs0
      rw [hN, ← Nat.add_assoc] at hs1
      have hszw := HBP.out.h1.bel.size
      have hsb4 : sb < w4.heap.size := by omega
      clear hkd hN hkz hsb'
      have HBP5 := Lib.hid (HBP.out.opd #[.int .i64 kind, .int .i64 X])
      clear HBP
      go_upto_block 2 with (fail)
      obtain ⟨w5, hw5⟩ : ∃ w5, w4.alloc (.cells #[.int .i64 kind, .int .i64 X] 84) = w5 := ⟨_, rfl⟩
      obtain ⟨bo, hbo⟩ : ∃ bo, w4.heap.size = bo := ⟨_, rfl⟩
      rw [hw5, hbo] at HBP5
      rw [hw5, hbo]
      clear hw5 hbo
      go_cut [21, 22, 23, 24, 25, 26, 27, 28, 29, 30, 31, 32, 33, 34, 35, 36] from 123 to 290 (fun ov _ _ _ _ _ _ _ _ _ _ _ _ _ _ _ wx => ov = .bool true ∧ ∃ (σ' τ' : HS) (U' : Nat), Same σ' τ' ∧ BP w wx B1 B2 ls lo ba ba bk bl z0 L A1 c1 σ' τ' U' U' S (some (bo, #[.int .i64 kind, .int .i64 X])))
      case first =>
        clear hs0 hs1
        by_cases e1 : kind = 1
        · as_aux_lemma =>
            subst e1
            have hU := HBP5.out.br.lt
            go_wp2_with fail
            go_loopw [22, 23] (fun qv iv wx => ∃ (j : Nat) (wt : Int), j ≤ 64 ∧ iv = .int .i64 ((j : Int) - 1) ∧ qv = .int .i64 wt ∧ Tz.Nxt U.testBit j wt ∧ w5 = wx) (fun _ iv _ => (intOf iv + 1).toNat)
            case atStart => exact ⟨64, -1, Nat.le_refl _, rfl, rfl, .inl ⟨rfl, fun i hi => by
              rcases h : U.testBit i with _ | _
              · rfl
              · have := bit_lt hU h
                omega⟩, rfl⟩
            case round =>
              obtain ⟨j, wt, hj, rfl, rfl, hwt, rfl⟩ := hrel
              have HWT := Lib.hid hwt
              clear hwt
              rcases j with _ | j
              · rcases HWT.out with ⟨rfl, hall⟩ | ⟨k, rfl, _, hk, hmin⟩
                · have HA := Lib.hid hall
                  clear hall
                  go_wp2_with fail
                  refine (HBP5.out.next H0.out).mono ?_
                  rintro e w6 h6
                  rcases h6 with ⟨rfl, _, rfl⟩ | ⟨j, g, σ', _, _, hj2, _⟩
                  rotate_left
                  · rw [HA.out j (Nat.zero_le _)] at hj2
                    cases hj2
                  dsimp only
                  go_wp2_with fail
                  go_meet
                  exact ⟨rfl, σ, τ, U, HSM.out, HBP5.out⟩
                · have hk64 := bit_lt hU hk
                  have hk0 : (0 : Int) ≤ (k : Int) := by omega
                  have HK := Lib.hid (show U.testBit k = true ∧ ∀ i, i < k → U.testBit i = false from ⟨hk, fun i h => hmin i (Nat.zero_le _) h⟩)
                  clear hk hmin
                  go_wp2_with fail
                  refine (HBP5.out.next H0.out).mono ?_
                  rintro e w6 h6
                  rcases h6 with ⟨_, hno, _⟩ | ⟨j, g, σ', rfl, hj64, hj2, hj3, hs6, hb6⟩
                  · have := HK.out.1
                    rw [hno k] at this
                    cases this
                  obtain rfl : j = k := by
                    rcases Nat.lt_trichotomy j k with h | h | h
                    · rw [HK.out.2 j h] at hj2
                      cases hj2
                    · exact h
                    · have := HK.out.1
                      rw [hj3 k h] at this
                      cases this
                  have HS6 := Lib.hid hs6
                  have hrb := rm_bit hU hj64
                  have HB7 := Lib.hid (hb6.st (V' := rm U j) H0.out hj64 (x := false) fun i hi => by
                    rw [hrb]
                    by_cases e : i = j
                    · simp [e]
                    · simp [e])
                  have hlt6 := hb6.lf.lt
                  have hc6 := hb6.cell hj64
                  have hf6 := hb6.lf.free j
                  have hjl : (j : Int) < 64 := by omega
                  clear hs6 hb6 hrb hj2 hj3
                  dsimp only
                  go_wp2_with fail
                  refine (HB7.out.sweep2 H0.out j).mono ?_
                  rintro e w8 ⟨g', τ', rfl, hs8, hi8, hb8⟩
                  obtain ⟨hsm8, rfl⟩ := HSM.out.sw1 (InvX.of HB7.out.h1.hp) hi8 HS6.out hs8
                  have HSM8 := Lib.hid hsm8
                  have HB8 := Lib.hid hb8
                  have hgg : ((g : Int) == (g : Int)) = true := by simp
                  clear hs8 hi8 hb8 hsm8 HB7 HS6
                  dsimp only
                  go_wp2_with fail
                  go_meet
                  exact ⟨rfl, σ', τ', _, HSM8.out, HB8.out⟩
              · have hj1 : ((j + 1 : Nat) : Int) - 1 = (j : Int) := by omega
                rw [hj1]
                clear hj1
                have hj0 : (0 : Int) ≤ (j : Int) := by omega
                have hj64 : (j : Int) < 64 := by omega
                have hc5 := HBP5.out.cell (k := j) (by omega)
                have hlt5 := HBP5.out.lf.lt
                rcases hb : U.testBit j with _ | _
                · rw [hb] at hc5
                  have HW2 := Lib.hid (show Tz.Nxt U.testBit j wt from by
                    rcases HWT.out with ⟨h1, h2⟩ | ⟨k, h1, h2, h3, h4⟩
                    · exact .inl ⟨h1, fun i hi => by
                        by_cases e : i = j
                        · rw [e]; exact hb
                        · exact h2 i (by omega)⟩
                    · exact .inr ⟨k, h1, by omega, h3, fun i hi hik => by
                        by_cases e : i = j
                        · rw [e]; exact hb
                        · exact h4 i (by omega) hik⟩)
                  clear hb HWT
                  go_wp2_with fail
                  go_roundw
                  case rel => exact ⟨j, wt, by omega, rfl, rfl, HW2.out, by first | rfl | trivial⟩
                  case measure => simp [intOf]
                · rw [hb] at hc5
                  have HW2 := Lib.hid (show Tz.Nxt U.testBit j (j : Int) from .inr ⟨j, rfl, Nat.le_refl _, hb, fun i h1 h2 => by omega⟩)
                  clear hb HWT
                  go_wp2_with fail
                  go_roundw
                  case rel => exact ⟨j, (j : Int), by omega, rfl, rfl, HW2.out, by first | rfl | trivial⟩
                  case measure => simp [intOf]
        · by_cases e4 : kind = 4
          · as_aux_lemma =>
              subst e4
              have o0 := (HBP5.out.op _ _ rfl).2
              have q1 : w5.cell? ⟨bo, 1, none⟩ = some (.int .i64 X) := o0.cell 1
              have q1l := o0.lt
              clear o0
              go_wp2_with fail
              refine (HBP5.out.begin_ H0.out X).mono ?_
              rintro e w6 ⟨rfl, hb6⟩
              obtain ⟨U1, hU1⟩ : ∃ U1, 2 ^ (min (max X 0) 64).toNat - 1 = U1 := ⟨_, rfl⟩
              have HUB := Lib.hid (show ∀ i, i < 64 → U1.testBit i = decide ((i : Int) < X) from fun i hi => by
                rw [← hU1, Nat.testBit_two_pow_sub_one]
                exact decide_eq_decide.2 (by omega))
              rw [hU1] at hb6
              have HB6 := Lib.hid hb6
              clear hb6 hU1 HBP5 q1 q1l
              dsimp only
              go_wp2_with fail
              go_loopw [35] (fun iv wx => ∃ (r V : Nat), r ≤ 64 ∧ iv = .int .i64 (r : Int) ∧ BP w wx B1 B2 ls lo ba ba bk bl z0 L A1 c1 σ τ U1 V S (some (bo, #[.int .i64 4, .int .i64 X])) ∧ ∀ i, i < 64 → V.testBit i = if i < r then U1.testBit i else U.testBit i) (fun iv _ => 64 - (intOf iv).toNat)
              case atStart => exact ⟨0, U, by omega, rfl, HB6.out, fun i hi => by rw [if_neg (by omega)]⟩
              case round =>
                clear HB6
                obtain ⟨r, V, hr, rfl, hb, hv⟩ := hrel
                have HB := Lib.hid hb
                have HV := Lib.hid hv
                clear hb hv
                by_cases hr64 : r < 64
                · have hr2 : (r : Int) < 64 := by omega
                  have hr0 : (0 : Int) ≤ (r : Int) := by omega
                  have o0 := (HB.out.op _ _ rfl).2
                  have q1 : wr.cell? ⟨bo, 1, none⟩ = some (.int .i64 X) := o0.cell 1
                  have q1l := o0.lt
                  have hlt6 := HB.out.lf.lt
                  have hc6 := HB.out.cell hr64
                  have hf6 := HB.out.lf.free r
                  obtain ⟨V', hV'⟩ := bits_ex (fun i => if i = r then decide ((r : Int) < X) else V.testBit i) 64
                  have HV2 := Lib.hid (show ∀ i, i < 64 → V'.testBit i = if i < r + 1 then U1.testBit i else U.testBit i from fun i hi => by
                    rw [hV' i hi]
                    by_cases e : i = r
                    · subst e
                      rw [if_pos rfl, if_pos (by omega), HUB.out i hi]
                    · rw [if_neg e, HV.out i hi]
                      by_cases h : i < r
                      · rw [if_pos h, if_pos (by omega)]
                      · rw [if_neg h, if_neg (by omega)])
                  have HB7 := Lib.hid (HB.out.st (V' := V') H0.out hr64 (x := decide ((r : Int) < X)) hV')
                  clear HB HV o0 hV'
                  go_wp2_with fail
                  go_roundw
                  case rel => exact ⟨r + 1, V', by omega, by go_num, HB7.out, HV2.out⟩
                  case measure => simp [intOf]; omega
                · obtain rfl : r = 64 := by omega
                  have hr2 : ¬ ((64 : Nat) : Int) < 64 := by omega
                  have HB7 := Lib.hid (HB.out.bits (V' := U1) fun i hi => by rw [HV.out i hi, if_pos hi])
                  go_wp2_with fail
                  go_meet
                  exact ⟨rfl, σ, τ, U1, HSM.out, HB7.out⟩
          · by_cases e3 : kind = 3
            · as_aux_lemma =>
                subst e3
                have HN2 := Lib.hid (show num σ ≤ 1000000 ∧ num τ ≤ 1000000 from by
                  have h1 := allOf_len σ.ps σ.ps.length
                  have h2 := HBP5.out.h1.hp.ar.hn
                  have h3 := HSM.out.num_
                  unfold num at *
                  omega)
                go_wp2_with fail
                go_loopw [33, 34] (fun gv iv wx => ∃ (r g V : Nat) (τ' : HS), r ≤ 64 ∧ iv = .int .i64 (r : Int) ∧ gv = .int .i64 (g : Int) ∧ BP w wx B1 B2 ls lo ba ba bk bl z0 L A1 c1 σ τ' U V S (some (bo, #[.int .i64 3, .int .i64 X])) ∧ SwP τ (fun i => decide (i < r) && U.testBit i) g τ' ∧ ∀ i, i < 64 → V.testBit i = if i < r then false else U.testBit i) (fun _ iv _ => 64 - (intOf iv).toNat)
                case atStart => exact ⟨0, 0, U, τ, by omega, rfl, rfl, HBP5.out, (SwP.start τ).eq fun i => by simp, fun i hi => by rw [if_neg (by omega)]⟩
                case round =>
                  clear HBP5
                  obtain ⟨r, g, V, τ', hr, rfl, rfl, hb, hs, hv⟩ := hrel
                  have HB := Lib.hid hb
                  have HS := Lib.hid hs
                  have HV := Lib.hid hv
                  have hgn : g ≤ 1000000 := by
                    have := hs.num
                    have := HN2.out.2
                    omega
                  clear hb hs hv
                  by_cases hr64 : r < 64
                  · have hr2 : (r : Int) < 64 := by omega
                    have hr0 : (0 : Int) ≤ (r : Int) := by omega
                    have hlt6 := HB.out.lf.lt
                    have hc6 := HB.out.cell hr64
                    rw [HV.out r hr64, if_neg (Nat.lt_irrefl r)] at hc6
                    obtain ⟨V', hV'⟩ := bits_ex (fun i => if i = r then false else V.testBit i) 64
                    have HV2 := Lib.hid (show ∀ i, i < 64 → V'.testBit i = if i < r + 1 then false else U.testBit i from fun i hi => by
                      rw [hV' i hi]
                      by_cases e : i = r
                      · subst e
                        rw [if_pos rfl, if_pos (by omega)]
                      · rw [if_neg e, HV.out i hi]
                        by_cases h : i < r
                        · rw [if_pos h, if_pos (by omega)]
                        · rw [if_neg h, if_neg (by omega)])
                    have HVV := Lib.hid hV'
                    clear hV'
                    rcases hbit : U.testBit r with _ | _
                    · rw [hbit] at hc6
                      have hf6 := HB.out.lf.free r
                      have HB7 := Lib.hid (HB.out.st (V' := V') H0.out hr64 (x := false) HVV.out)
                      have HS7 := Lib.hid (show SwP τ (fun i => decide (i < r + 1) && U.testBit i) g τ' from HS.out.eq fun i => by
                        by_cases e : i = r
                        · rw [e, hbit]; simp
                        · by_cases h : i < r
                          · simp [h, show i < r + 1 by omega]
                          · simp [h, show ¬ i < r + 1 by omega])
                      clear hbit HB HS HV
                      go_wp2_with fail
                      go_roundw
                      case rel => exact ⟨r + 1, g, V', τ', by omega, by go_num, rfl, HB7.out, HS7.out, HV2.out⟩
                      case measure => simp [intOf]; omega
                    · rw [hbit] at hc6
                      have HBT := Lib.hid hbit
                      clear hbit
                      go_wp2_with fail
                      refine (HB.out.sweep2 H0.out r).mono ?_
                      rintro e w8 ⟨g', τ8, rfl, hs8, hi8, hb8⟩
                      have HS8 := Lib.hid (show SwP τ (fun i => decide (i < r + 1) && U.testBit i) (g + g') τ8 from (HS.out.step (by simp) hs8).eq fun i => by
                        by_cases e : i = r
                        · rw [e, HBT.out]; simp
                        · by_cases h : i < r
                          · simp [h, e, show i < r + 1 by omega]
                          · simp [h, e, show ¬ i < r + 1 by omega])
                      have hgn8 : g' ≤ 1000000 := by
                        have := HS8.out.num
                        have := HN2.out.2
                        omega
                      have hlt8 := hb8.lf.lt
                      have hc8 := hb8.cell hr64
                      have hf8 := hb8.lf.free r
                      have HB9 := Lib.hid (hb8.st (V' := V') H0.out hr64 (x := false) HVV.out)
                      clear hs8 hi8 hb8 HB HS HV hc6
                      dsimp only
                      go_wp2_with fail
                      go_roundw
                      case rel => exact ⟨r + 1, g + g', V', τ8, by omega, by go_num, by go_num, HB9.out, HS8.out, HV2.out⟩
                      case measure => simp [intOf]; omega
                  · obtain rfl : r = 64 := by omega
                    have hr2 : ¬ ((64 : Nat) : Int) < 64 := by omega
                    have HB7 := Lib.hid (HB.out.bits (V' := 0) fun i hi => by rw [HV.out i hi, if_pos hi, Nat.zero_testBit])
                    clear HB HV
                    go_wp2_with fail
                    refine (HB7.out.rest H0.out HN2.out.1).mono ?_
                    rintro e w8 ⟨g', σ8, rfl, hs8, hb8⟩
                    have hU := HB7.out.br.lt
                    obtain ⟨hsm8, rfl⟩ := Same.swP HSM.out (InvX.of hb8.h1.hp) (InvX.of hb8.h2.hp) hs8 (HS.out.eq fun i => by
                      rcases hbit : U.testBit i with _ | _
                      · simp
                      · simp [bit_lt hU hbit])
                    have HSM8 := Lib.hid hsm8
                    have HB8 := Lib.hid hb8
                    have hgg : ((g' : Int) == (g' : Int)) = true := by simp
                    clear hs8 hb8 hsm8 HB7 HS
                    dsimp only
                    go_wp2_with fail
                    go_meet
                    exact ⟨rfl, σ8, τ', 0, HSM8.out, HB8.out⟩
            · by_cases e2 : kind = 2
              · as_aux_lemma =>
                  subst e2
                  have hU := HBP5.out.br.lt
                  go_wp2_with fail
                  go_loopw [27, 28, 29, 30, 31, 32] (fun rv kv _ _ _ _ wx => ∃ (r V : Nat) (room : Bool) (τ' : HS), r ≤ 64 ∧ kv = .int .i64 (r : Int) ∧ rv = .bool room ∧ V < 18446744073709551616 ∧ BP w wx B1 B2 ls lo ba ba bk bl z0 L A1 c1 σ τ' U V S (some (bo, #[.int .i64 2, .int .i64 X])) ∧ ((room = false ∧ ∀ b τ2 U2, Nd X (64 - r) r τ' V b τ2 U2 → Nd X 64 0 τ U b τ2 U2) ∨ (room = true ∧ Nd X 64 0 τ U true τ' V))) (fun _ kv _ _ _ _ _ => 64 - (intOf kv).toNat)
                  case atStart => exact ⟨0, U, false, τ, by omega, rfl, rfl, hU, HBP5.out, .inl ⟨rfl, fun _ _ _ h => h⟩⟩
                  case round =>
                    clear HBP5
                    obtain ⟨r, V, room, τ', hr, rfl, rfl, hV, hb, hnd⟩ := hrel
                    have HB := Lib.hid hb
                    clear hb
                    rcases hnd with ⟨rfl, hnc⟩ | ⟨rfl, hnd⟩
                    rotate_left
                    · have HND := Lib.hid hnd
                      clear hnd
                      by_cases hr64 : r < 64
                      · have hr2 : (r : Int) < 64 := by omega
                        have o0 := (HB.out.op _ _ rfl).2
                        have q1 : wr.cell? ⟨bo, 1, none⟩ = some (.int .i64 X) := o0.cell 1
                        have q1l := o0.lt
                        clear o0
                        go_wp2_with fail
                        refine (HB.out.need H0.out X).mono ?_
                        rintro e w9 ⟨b9, U9, σ9, rfl, hn9, hb9⟩
                        obtain ⟨rfl, hsm9, rfl⟩ := Nd.uniq HSM.out hn9 HND.out
                        have HSM9 := Lib.hid hsm9
                        have HB9 := Lib.hid hb9
                        clear hn9 hsm9 hb9 HB HND q1 q1l
                        dsimp only
                        go_wp2_with fail
                        go_meet
                        exact ⟨rfl, σ9, τ', _, HSM9.out, HB9.out⟩
                      · have hr2 : ¬ (r : Int) < 64 := by omega
                        have o0 := (HB.out.op _ _ rfl).2
                        have q1 : wr.cell? ⟨bo, 1, none⟩ = some (.int .i64 X) := o0.cell 1
                        have q1l := o0.lt
                        clear o0
                        go_wp2_with fail
                        refine (HB.out.need H0.out X).mono ?_
                        rintro e w9 ⟨b9, U9, σ9, rfl, hn9, hb9⟩
                        obtain ⟨rfl, hsm9, rfl⟩ := Nd.uniq HSM.out hn9 HND.out
                        have HSM9 := Lib.hid hsm9
                        have HB9 := Lib.hid hb9
                        clear hn9 hsm9 hb9 HB HND q1 q1l
                        dsimp only
                        go_wp2_with fail
                        go_meet
                        exact ⟨rfl, σ9, τ', _, HSM9.out, HB9.out⟩
                    · have HNC := Lib.hid hnc
                      clear hnc
                      by_cases hr64 : r < 64
                      rotate_left
                      · obtain rfl : r = 64 := by omega
                        have hr2 : ¬ ((64 : Nat) : Int) < 64 := by omega
                        have HND := Lib.hid (HNC.out false τ' V ⟨rfl, rfl, rfl⟩)
                        have o0 := (HB.out.op _ _ rfl).2
                        have q1 : wr.cell? ⟨bo, 1, none⟩ = some (.int .i64 X) := o0.cell 1
                        have q1l := o0.lt
                        clear o0
                        go_wp2_with fail
                        refine (HB.out.need H0.out X).mono ?_
                        rintro e w9 ⟨b9, U9, σ9, rfl, hn9, hb9⟩
                        obtain ⟨rfl, hsm9, rfl⟩ := Nd.uniq HSM.out hn9 HND.out
                        have HSM9 := Lib.hid hsm9
                        have HB9 := Lib.hid hb9
                        clear hn9 hsm9 hb9 HB HND q1 q1l
                        dsimp only
                        go_wp2_with fail
                        go_meet
                        exact ⟨rfl, σ9, τ', _, HSM9.out, HB9.out⟩
                      · have hr2 : (r : Int) < 64 := by omega
                        have hr0 : (0 : Int) ≤ (r : Int) := by omega
                        have HNJ := Lib.hid (show ∀ b τ2 U2, Nd X (63 - r + 1) r τ' V b τ2 U2 → Nd X 64 0 τ U b τ2 U2 from fun b τ2 U2 h => HNC.out b τ2 U2 (by rw [show 64 - r = 63 - r + 1 by omega]; exact h))
                        clear HNC
                        obtain ⟨rb, hkc⟩ := kcl_pcl τ' r
                        go_wp2_with fail
                        refine (HB.out.class2 (r : Int)).mono ?_
                        rw [hkc]
                        rintro e w6 ⟨rfl, hb6⟩
                        have o0 := (hb6.op _ _ rfl).2
                        have q1 : w6.cell? ⟨bo, 1, none⟩ = some (.int .i64 X) := o0.cell 1
                        have q1l := o0.lt
                        have hlt6 := hb6.lf.lt
                        have hc6 := hb6.cell hr64
                        have hf6 := hb6.lf.free r
                        have HB6 := Lib.hid hb6
                        clear hb6 o0 hkc HB
                        dsimp only
                        by_cases hc : V.testBit r = true ∧ pcl τ' r = X ∧ 0 ≤ X
                        · have HC := Lib.hid hc
                          obtain ⟨hc1, hc2, hc3⟩ := hc
                          rw [hc1] at hc6
                          rw [hc2]
                          have hce : (X == X) = true := by simp
                          have hrb := rm_bit (k := r) hV hr64
                          have HB7 := Lib.hid (HB6.out.st (V' := rm V r) H0.out hr64 (x := false) fun i hi => by
                            rw [hrb]
                            by_cases e : i = r
                            · simp [e]
                            · simp [e])
                          have hrl := rm_lt (k := r) hV
                          clear hc1 hc2 hrb HB6
                          go_wp2_with fail
                          refine (HB7.out.sweep2 H0.out r).mono ?_
                          rintro e w8 ⟨g, τ8, rfl, hs8, hi8, hb8⟩
                          have HS8 := Lib.hid (show Sw1 τ' r g τ8 ∧ InvX τ8 from ⟨hs8, hi8⟩)
                          have HB8 := Lib.hid hb8
                          obtain ⟨rb8, hkc8⟩ := kcl_pcl τ8 r
                          have HKC := Lib.hid hkc8
                          clear hs8 hi8 hb8 HB7
                          dsimp only
                          go_wp2_with fail
                          refine (HB8.out.class2 (r : Int)).mono ?_
                          rw [hkc8]
                          rintro e w9 ⟨rfl, hb9⟩
                          have HB9 := Lib.hid hb9
                          clear hb9 HB8 hkc8
                          obtain ⟨c8, hc8⟩ : ∃ c8, pcl τ8 r = c8 := ⟨_, rfl⟩
                          rw [hc8] at HKC ⊢
                          clear hc8
                          dsimp only
                          by_cases hroom : c8 = X ∧ rb8 = true
                          · obtain ⟨rfl, rfl⟩ := hroom
                            have HNE := Lib.hid (HNJ.out true τ8 (rm V r) ⟨fun _ => ⟨g, τ8, HS8.out.1, HS8.out.2, .inl ⟨HKC.out, rfl, rfl, rfl⟩⟩, fun e => absurd HC.out e⟩)
                            have hcc : (c8 == c8) = true := by simp
                            clear HNJ HC HS8 HKC
                            go_wp2_with fail
                            go_roundw
                            case rel => exact ⟨r + 1, rm V r, true, τ8, by omega, by go_num, rfl, hrl, HB9.out, .inr ⟨rfl, HNE.out⟩⟩
                            case measure => simp [intOf]; omega
                          · have HNE := Lib.hid (show ∀ b τ2 U2, Nd X (64 - (r + 1)) (r + 1) τ8 (rm V r) b τ2 U2 → Nd X 64 0 τ U b τ2 U2 from fun b τ2 U2 h => HNJ.out b τ2 U2 ⟨fun _ => ⟨g, τ8, HS8.out.1, HS8.out.2, .inr ⟨fun e => hroom (by
                              rw [HKC.out] at e
                              injection e with e
                              injection e with e
                              injection e with e1 e2
                              injection e2 with e2 _
                              injection e1 with _ e1
                              injection e2 with e2
                              exact ⟨e1, e2⟩), by rw [show 63 - r = 64 - (r + 1) by omega]; exact h⟩⟩, fun e => absurd HC.out e⟩)
                            by_cases hcc : c8 = X
                            · have hrb : rb8 = false := by
                                rcases rb8 with _ | _
                                · rfl
                                · exact absurd ⟨hcc, rfl⟩ hroom
                              subst hrb hcc
                              have hcc : (c8 == c8) = true := by simp
                              clear HNJ HC HS8 HKC hroom
                              go_wp2_with fail
                              go_roundw
                              case rel => exact ⟨r + 1, rm V r, false, τ8, by omega, by go_num, rfl, hrl, HB9.out, .inl ⟨rfl, HNE.out⟩⟩
                              case measure => simp [intOf]; omega
                            · have hcb : (c8 == X) = false := by simpa using hcc
                              clear HNJ HC HS8 HKC hroom hcc
                              go_wp2_with fail
                              go_roundw
                              case rel => exact ⟨r + 1, rm V r, false, τ8, by omega, by go_num, rfl, hrl, HB9.out, .inl ⟨rfl, HNE.out⟩⟩
                              case measure => simp [intOf]; omega
                        · have HNE := Lib.hid (show ∀ b τ2 U2, Nd X (64 - (r + 1)) (r + 1) τ' V b τ2 U2 → Nd X 64 0 τ U b τ2 U2 from fun b τ2 U2 h => HNJ.out b τ2 U2 (Nd.skip hc (by rw [show 63 - r = 64 - (r + 1) by omega]; exact h)))
                          have HC := Lib.hid hc
                          clear HNJ hc
                          obtain ⟨c6, hcp⟩ : ∃ c6, pcl τ' r = c6 := ⟨_, rfl⟩
                          rw [hcp] at HC ⊢
                          clear hcp
                          rcases hbit : V.testBit r with _ | _
                          · rw [hbit] at hc6
                            clear hbit HC
                            go_wp2_with fail
                            go_roundw
                            case rel => exact ⟨r + 1, V, false, τ', by omega, by go_num, rfl, hV, HB6.out, .inl ⟨rfl, HNE.out⟩⟩
                            case measure => simp [intOf]; omega
                          · rw [hbit] at hc6
                            by_cases hcc : c6 = X
                            · have hX : ¬ (0 : Int) ≤ X := fun e => HC.out ⟨hbit, hcc, e⟩
                              subst hcc
                              have hce : (c6 == c6) = true := by simp
                              clear hbit HC
                              go_wp2_with fail
                              go_roundw
                              case rel => exact ⟨r + 1, V, false, τ', by omega, by go_num, rfl, hV, HB6.out, .inl ⟨rfl, HNE.out⟩⟩
                              case measure => simp [intOf]; omega
                            · have hce : (c6 == X) = false := by simpa using hcc
                              clear hbit HC hcc
                              go_wp2_with fail
                              go_roundw
                              case rel => exact ⟨r + 1, V, false, τ', by omega, by go_num, rfl, hV, HB6.out, .inl ⟨rfl, HNE.out⟩⟩
                              case measure => simp [intOf]; omega
              · as_aux_lemma =>
                  have h1b : (kind == 1) = false := by simpa using e1
                  have h2b : (kind == 2) = false := by simpa using e2
                  have h3b : (kind == 3) = false := by simpa using e3
                  have h4b : (kind == 4) = false := by simpa using e4
                  by_cases hLp : 0 < L.length
                  · have hLp2 : (0 : Int) < (L.length : Int) := by omega
                    have o0 := (HBP5.out.op _ _ rfl).2
                    have q1 : w5.cell? ⟨bo, 1, none⟩ = some (.int .i64 X) := o0.cell 1
                    have q1l := o0.lt
                    obtain ⟨j, hj, hjx⟩ := Bit.idx X L.length (by omega) (by omega)
                    obtain ⟨a, ha⟩ : ∃ a, L[j]? = some a := ⟨_, List.getElem?_eq_getElem hj⟩
                    obtain ⟨g, rfl⟩ : ∃ g, A1 = some ⟨g, 0, none⟩ := by
                      rcases HBP5.out.row.2 with ⟨_, h⟩ | ⟨g, cap, _, h, _⟩
                      · exfalso; omega
                      · injection h with h3; exact ⟨g, h3⟩
                    have hcell := HBP5.out.row.cells (g := g) rfl j (.int .i64 a) (by simp [ints', ha])
                    rw [add_form] at hcell
                    have hcell : w5.cell? ⟨g, j, none⟩ = some (.int .i64 a) := by simpa using hcell
                    have hgl := (HBP5.out.row.lt g rfl).2
                    have hab := HLW.out a (List.mem_of_getElem? ha)
                    clear o0 ha
                    go_wp2_with (simp only [hjx])
                    refine (HBP5.out.shade1 H0.out a (by omega)).mono ?_
                    rintro e w6 ⟨b6, σ6, rfl, hs6, hb6⟩
                    have HB6 := Lib.hid hb6
                    have HS6 := Lib.hid hs6
                    clear hb6 hs6
                    dsimp only
                    go_wp2_with fail
                    refine (HB6.out.shade2 H0.out a (by omega)).mono ?_
                    rintro e w7 ⟨b7, τ7, rfl, hs7, hb7⟩
                    obtain ⟨rfl, hsm7⟩ := ShB.uniq HSM.out HS6.out hs7
                    have HSM7 := Lib.hid hsm7
                    have HB7 := Lib.hid hb7
                    have hbb : (b6 == b6) = true := by simp
                    clear hs7 hsm7 hb7 HB6 HS6
                    dsimp only
                    go_wp2_with fail
                    go_meet
                    exact ⟨rfl, σ6, τ7, U, HSM7.out, HB7.out⟩
                  · have hLp2 : ¬ (0 : Int) < (L.length : Int) := by omega
                    go_wp2_with fail
                    go_meet
                    exact ⟨rfl, σ, τ, U, HSM.out, HBP5.out⟩
      case rest =>
        obtain ⟨rfl, σ', τ', U', hsm, hb⟩ := hcut
        have HSM6 := Lib.hid hsm
        have HB6 := Lib.hid hb.opn
        clear hsm hb HBP5 HSM hs0 hs1
        obtain ⟨w6, rfl⟩ : ∃ w6 : World, w6 = wc := ⟨_, rfl⟩
        go_wp2_with fail
        go_loopw [37, 38] (fun lv iv wx => ∃ (r nl : Nat) (A7 : Option Addr) (c7 : Nat), r ≤ 64 ∧ iv = .int .i64 (r : Int) ∧ lv = .slice A7 nl c7 ∧ (wl r U').length = nl ∧ Below w6.heap.size w6 wx ∧ wx.ownsRow w6.heap.size 3 1 (.slice A7 nl c7) nl (ints' (wl r U'))) (fun _ iv _ => 64 - (intOf iv).toNat)
        case atStart => exact ⟨0, 0, none, 0, by omega, rfl, rfl, rfl, Below.refl _ _, World.ownsRow_nil _ _ _ _⟩
        case round =>
          obtain ⟨r, nl, A7, c7, hr, rfl, rfl, hnl, hbe, ho⟩ := hrel
          have HBE := Lib.hid hbe
          have HO := Lib.hid ho
          have HNL := Lib.hid hnl
          have hnl64 : nl ≤ 64 := by
            rw [← hnl]
            have := Bit.sl_len r U'.testBit
            unfold wl
            rw [List.length_map]
            omega
          have HB7 := Lib.hid (HB6.out.call hbe)
          clear hbe ho hnl
          obtain ⟨w7, rfl⟩ : ∃ w7 : World, w7 = wr := ⟨_, rfl⟩
          by_cases hr64 : r < 64
          · have hr2 : (r : Int) < 64 := by omega
            have hr0 : (0 : Int) ≤ (r : Int) := by omega
            have hlt7 := HB7.out.lf.lt
            have hc7 := HB7.out.cell hr64
            have HWL2 := Lib.hid (wl_succ r U')
            rcases hbit : U'.testBit r with _ | _
            · rw [hbit] at hc7 HWL2
              have HW := Lib.hid (show wl (r + 1) U' = wl r U' from by rw [HWL2.out]; exact List.append_nil _)
              clear hbit HWL2
              go_wp2_with fail
              go_roundw
              case rel => exact ⟨r + 1, nl, A7, c7, by omega, by go_num, rfl, by rw [HW.out]; exact HNL.out, HBE.out, by rw [HW.out]; exact HO.out⟩
              case measure => simp [intOf]; omega
            · rw [hbit] at hc7 HWL2
              have HW := Lib.hid (show wl (r + 1) U' = wl r U' ++ [(r : Int)] from HWL2.out)
              have hsz7 := HBE.out.size
              clear hbit HWL2
              go_wp2_with (first
                | (at_builtin; go_loud (refine wpList_app _ rfl _ _ 27 rfl w6.heap.size 3 i0 (.int .i64 0) 1 8 Tryd.underlying27 HI0.out.1 HI0.out.2.1 HI0.out.2.2.1 HI0.out.2.2.2 rfl (by decide) _ _ _ rfl (HO.out.alloc _) (w7.heap.size + 1) _ 1 1 [.int .i64 (r : Int)] rfl (Blk.reads (Blk.new w7 _ _) (by simp) rfl rfl (by decide)) ?c1 ?c2 ?c3 ?c4 ?_))
                | fail)
              case c1 => intro u hu; simp at hu; subst hu; rfl
              case c2 => unfold maxLen; omega
              case c3 => omega
              case c4 => (try simp only [World.size_alloc]); omega
              intro a8 c8 w8 ho8 hg8 hat8
              have HBE8 := Lib.hid (show Below w6.heap.size w6 w8 from (fresh_alloc HBE.out _).grown hg8 (by simp; omega) (fun k hk => (HO.out.lt k hk).1))
              have HO8 := Lib.hid (show w8.ownsRow w6.heap.size 3 1 (.slice a8 (nl + 1) c8) (nl + 1) (ints' (wl (r + 1) U')) from by rw [HW.out]; simpa [ints'] using ho8)
              have HNL8 := Lib.hid (show (wl (r + 1) U').length = nl + 1 from by rw [HW.out, List.length_append, HNL.out]; rfl)
              clear ho8 hg8 hat8 HBE HO HB7 hc7
              go_wp2_with fail
              go_roundw
              case rel => exact ⟨r + 1, nl + 1, a8, c8, by omega, by go_num, rfl, HNL8.out, HBE8.out, HO8.out⟩
              case measure => simp [intOf]; omega
          · obtain rfl : r = 64 := by omega
            have hr2 : ¬ ((64 : Nat) : Int) < 64 := by omega
            clear HB6
            go_wp2_with fail
            refine (left_any ba U' _ HB7.out.br HB7.out.tz).mono ?_
            rintro e w8 ⟨a8, c8, rfl, ho8, hb8⟩
            have hll : (lefts U').length = nl := HNL.out
            have HLL := Lib.hid hll
            have HO8 := Lib.hid ho8
            have HBE8 := Lib.hid hb8
            have HWO8 := Lib.hid (show w8.ownsRow w6.heap.size 3 1 (.slice A7 nl c7) nl (ints' (lefts U')) from own_block HO.out fun k hk => hb8.block k (HO.out.lt k hk).2)
            clear ho8 hb8 HO hll
            dsimp only
            go_wp2_with fail
            refine (HB7.out.ints H0.out HBE8.out HO8.out (by have := HLL.out; omega)).mono ?_
            rintro e w9 ⟨rfl, hki, S9, hb9⟩
            have HP9 := Lib.hid (show Book.RI w9 w9.heap.size a8 (lefts U').length c8 (lefts U') from ⟨rfl, Reads.of_own (hki _ _ _ _ HO8.out)⟩)
            have HW9 := Lib.hid (show Book.RI w9 w9.heap.size A7 nl c7 (lefts U') from ⟨HLL.out, Reads.of_own (hki _ _ _ _ HWO8.out)⟩)
            have HB9 := Lib.hid hb9
            clear hki hb9 HO8 HWO8 HBE8 HB7
            dsimp only
            go_wp2_with fail
            refine (Book.same_yes _ HP9.out HW9.out).mono ?_
            rintro e w10 ⟨rfl, d, rfl⟩
            have HB10 := Lib.hid (HB9.out.call (below_drewN (Below.refl _ _) d))
            obtain ⟨w10, hw10⟩ : ∃ w10, w9.drewN d = w10 := ⟨_, rfl⟩
            rw [hw10] at HB10 ⊢
            clear hw10
            clear HP9 HW9 HB9
            dsimp only
            go_wp2_with fail
            refine (objectsF_any B1 ls σ' _ HB10.out.h1.hp HB10.out.h1.tab).mono ?_
            rintro e w11 ⟨os, a11, c11, rfl, hos, ho11, hb11, hf11⟩
            have HB11 := Lib.hid (HB10.out.call hb11)
            have HOS := Lib.hid hos
            have HO11 := Lib.hid ho11
            have HF11 := Lib.hid hf11
            have hosl : os.length ≤ 100000 := by
              have h1 := allOf_len σ'.ps σ'.ps.length
              have h2 := HB11.out.h1.hp.ar.hn
              have h3 := obs_len hos
              omega
            clear hos ho11 hb11 hf11 HB10
            dsimp only
            go_wp2_with fail
            refine (objectsF_any B2 ls τ' _ HB11.out.h2.hp HB11.out.h2.tab).mono ?_
            rintro e w12 ⟨os2, a12, c12, rfl, hos2, ho12, hb12, hf12⟩
            have HB12 := Lib.hid (HB11.out.call hb12)
            have HO112 := Lib.hid (own_block HO11.out fun k hk => hb12.block k (HO11.out.lt k hk).2)
            have HF112 := Lib.hid (show ∀ o ∈ os, OfR w10.heap.size w12 ls σ' o from fun o ho => own_block (HF11.out o ho) fun k hk => hb12.block k ((HF11.out o ho).lt k hk).2)
            have HC := Lib.hid (sameObjs_any w12 ls σ' τ' (allOf τ'.ps τ'.ps.length) os os2 a11 a12 c11 c12 _ _ HSM6.out (by rw [← HSM6.out.all_]; exact HOS.out) hos2 HO112.out ho12 HF112.out hf12 hosl)
            clear hos2 ho12 hb12 hf12 HB11 HO11 HF11 HOS HO112 HF112
            dsimp only
            go_wp2_with fail
            refine HC.out.mono ?_
            rintro e w13 ⟨rfl, d, rfl⟩
            have HB13 := Lib.hid (HB12.out.call (below_drewN (Below.refl _ _) d))
            clear HB12 HC
            dsimp only
            go_wp2_with fail
            go_roundw
            case rel => exact ⟨q + 1, σ', τ', U', S9, by omega, by go_num, HSM6.out, HB13.out⟩
            case measure => simp [intOf]; omega
    · obtain rfl : q = m := by omega
      have hqm2 : ¬ (q : Int) < (q : Int) := by omega
      go_wp2_with fail
      refine (HBP.out.bo.apart (by have := HBP.out.bo.1 bk HBP.out.bo.in_.1; omega)).mono ?_
      rintro e w5 ⟨rfl, hk5⟩
      have HE5 := Lib.hid (show Below w.heap.size w w5 from HBP.out.h1.bel.trans (hk5.below HBP.out.h1.bel.size fun i hi e => by
        obtain ⟨o1, o2, o3, o4, o5⟩ := HBP.out.or_
        have hsz := HBP.out.h1.bel.size
        rcases e with e | e
        · have := HBP.out.bs i e
          omega
        · omega))
      clear hk5 HBP
      dsimp only
      go_wp2_with fail
      refine (Cls.rsize_any 0 _).mono ?_
      rintro e w6 ⟨rfl, hb6⟩
      rw [show Cls.csz 0 = 1 by decide]
      have HE6 := Lib.hid (fresh_call HE5.out hb6)
      clear hb6
      dsimp only
      go_wp2_with fail
      go_ret
      exact ⟨rfl, HE6.out⟩
theorem walk (A : Option Addr) (n c : Nat) (of : List Int) (N : Int) (A2 : Option Addr) (m c2 : Nat) (pl : List (Value × Value)) (w : World) (hT : Pg.Tab w ∧ Tz.Tab w) (hl : of.length = n) (_wl : ∀ x ∈ of, (Lit.int .i64 x).wf = true) (hR : Reads w w.heap.size 1 A n c (of.map (.int .i64)))
    (_w1 : (Lit.int .i64 N).wf = true) (hl2 : pl.length = m) (wl2 : ∀ q ∈ pl, (∃ z, q.1 = .int .i64 z ∧ (Lit.int .i64 z).wf = true) ∧ (∃ z, q.2 = .int .i64 z ∧ (Lit.int .i64 z).wf = true)) (hR2 : Reads w w.heap.size 2 A2 m c2 (pairCells pl)) :
    Calls Tryd.prog 5 #[.slice A n c, .int .i64 N, .slice A2 m c2] w fun e w' => e = .returned (.bool true) ∧ Below w.heap.size w w' := by
  have hmm : m ≤ 9223372036854775807 := by have := hR2.1; have := hR2.2.1; unfold maxLen at this; omega
  by_cases h : n < 1 ∨ 8 < n ∨ N < 0 ∨ 100 < N ∨ 60 < m
  · exact early A n c N A2 m c2 w hT hmm h
  · obtain ⟨M, rfl⟩ : ∃ M : Nat, N = (M : Int) := ⟨N.toNat, by omega⟩
    exact core A n c of M A2 m c2 pl w hT hl hR hl2 wl2 hR2 (by omega) (by omega) (by omega) (by omega)
end Go.Proofs.YtfgpadkoonogpaaDoor.BrushPlays
