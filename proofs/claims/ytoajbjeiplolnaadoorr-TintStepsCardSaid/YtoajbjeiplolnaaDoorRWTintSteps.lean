/- The walk of besomlaw20.TintSteps: it returns true, and writes nothing that was there. -/
import Derived.Test.YtoajbjeiplolnaaDoorRTb
import Derived.Test.YtoajbjeiplolnaaDoorRBMp
import Derived.Outline
namespace Go.Proofs.YtoajbjeiplolnaaDoorR.TintSteps
open Go.RowKit Ar Hp Tn
set_option linter.unusedSimpArgs false
set_option linter.unusedVariables false

set_option maxRecDepth 100000 in
theorem early (A : Option Addr) (n c : Nat) (N : Int) (A2 : Option Addr) (m c2 : Nat) (A3 : Option Addr) (k c3 : Nat) (room : Int) (w : World) (hT : Pg.Tab w) (hm : m ≤ 9223372036854775807) (hk : k ≤ 9223372036854775807) (h : n < 1 ∨ 8 < n ∨ N < 0 ∨ 60 < N ∨ 150 < m ∨ 20 < k) :
    Calls Tryd.prog 9 #[.slice A n c, .int .i64 N, .slice A2 m c2, .slice A3 k c3, .int .i64 room] w fun e w' => e = .returned (.bool true) ∧ Below w.heap.size w w' := by
  have HT := Lib.hid hT
  clear hT
  by_cases h0 : n < 1
  · have h0' : (n : Int) < 1 := by omega
    clear h0
    clear h
    go_enter Tryd.func9, Tryd.ntmps9
    go_wp2_with fail
    refine (Tn.alive _ HT.out).mono ?_
    rintro e w1 ⟨rfl, hb⟩
    dsimp only
    go_wp2_with fail
    go_ret
    exact ⟨rfl, hb⟩
  · have h0' : ¬ (n : Int) < 1 := by omega
    by_cases h1 : 8 < n
    · have h1' : (8 : Int) < (n : Int) := by omega
      clear h1
      clear h
      go_enter Tryd.func9, Tryd.ntmps9
      go_wp2_with fail
      refine (Tn.alive _ HT.out).mono ?_
      rintro e w1 ⟨rfl, hb⟩
      dsimp only
      go_wp2_with fail
      go_ret
      exact ⟨rfl, hb⟩
    · have h1' : ¬ (8 : Int) < (n : Int) := by omega
      by_cases h2 : N < 0
      · clear h
        go_enter Tryd.func9, Tryd.ntmps9
        go_wp2_with fail
        refine (Tn.alive _ HT.out).mono ?_
        rintro e w1 ⟨rfl, hb⟩
        dsimp only
        go_wp2_with fail
        go_ret
        exact ⟨rfl, hb⟩
      · by_cases h3 : 60 < N
        · clear h
          go_enter Tryd.func9, Tryd.ntmps9
          go_wp2_with fail
          refine (Tn.alive _ HT.out).mono ?_
          rintro e w1 ⟨rfl, hb⟩
          dsimp only
          go_wp2_with fail
          go_ret
          exact ⟨rfl, hb⟩
        · by_cases h4 : 150 < m
          · have h4' : (150 : Int) < (m : Int) := by omega
            clear h4
            clear h
            go_enter Tryd.func9, Tryd.ntmps9
            go_wp2_with fail
            refine (Tn.alive _ HT.out).mono ?_
            rintro e w1 ⟨rfl, hb⟩
            dsimp only
            go_wp2_with fail
            go_ret
            exact ⟨rfl, hb⟩
          · have h4' : ¬ (150 : Int) < (m : Int) := by omega
            have h5 : 20 < k := by omega
            have h5' : (20 : Int) < (k : Int) := by omega
            clear h5
            clear h
            go_enter Tryd.func9, Tryd.ntmps9
            go_wp2_with fail
            refine (Tn.alive _ HT.out).mono ?_
            rintro e w1 ⟨rfl, hb⟩
            dsimp only
            go_wp2_with fail
            go_ret
            exact ⟨rfl, hb⟩

/-- What the map of the Black ones says is so. -/
def Says (f : Int → Bool) (T : TS) : Prop := ∀ x, f x = true → T.c x = 2
theorem Says.upd {f : Int → Bool} {T : TS} {a : Int} {z : Bool} (h : Says f T) (hz : z = true → T.c a = 2) : Says (fun x => if x = a then z else f x) T := by
  intro x hx
  have hx : (if x = a then z else f x) = true := hx
  by_cases e : x = a
  · subst e
    rw [if_pos rfl] at hx
    exact hz hx
  · rw [if_neg e] at hx
    exact h x hx
set_option maxRecDepth 100000 in
set_option maxHeartbeats 4000000 in
theorem core (A : Option Addr) (n c : Nat) (of : List Int) (N : Nat) (A2 : Option Addr) (m c2 : Nat) (lk : List Link) (A3 : Option Addr) (k c3 : Nat) (fr : List Int) (room : Int) (w : World) (hT : Pg.Tab w) (hl : of.length = n) (hR : Reads w w.heap.size 1 A n c (of.map (.int .i64))) (hl2 : lk.length = m) (hw2 : ∀ q ∈ lk, q.2.2 ≤ 9223372036854775807) (hR2 : Reads w w.heap.size 3 A2 m c2 (tripCells lk)) (hl3 : fr.length = k) (hR3 : Reads w w.heap.size 1 A3 k c3 (fr.map (.int .i64))) (h0 : 1 ≤ n) (h8 : n ≤ 8) (hN : N ≤ 60) (hm : m ≤ 150) (hk : k ≤ 20) :
    Calls Tryd.prog 9 #[.slice A n c, .int .i64 (N : Int), .slice A2 m c2, .slice A3 k c3, .int .i64 room] w fun e w' => e = .returned (.bool true) ∧ Below w.heap.size w w' := by
  have HT := Lib.hid hT
  have H0 := Lib.hid hT.1
  have HL := Lib.hid hl
  have HR := Lib.hid hR
  have HL2 := Lib.hid hl2
  have HW2 := Lib.hid hw2
  have HR2 := Lib.hid hR2
  have HL3 := Lib.hid hl3
  have HR3 := Lib.hid hR3
  have h1' : ¬ (n : Int) < 1 := by omega
  have h2' : ¬ (8 : Int) < (n : Int) := by omega
  have h4' : ¬ (N : Int) < 0 := by omega
  have h5' : ¬ (60 : Int) < (N : Int) := by omega
  have h6' : ¬ (150 : Int) < (m : Int) := by omega
  have h7' : ¬ (20 : Int) < (k : Int) := by omega
  have hmm := @run_makeMap Tryd.prog
  clear hT hl hR hl2 hw2 hR2 hl3 hR3
  go_enter Tryd.func9, Tryd.ntmps9
  go_wp2_with fail
  refine (Tn.alive _ HT.out).mono ?_
  rintro e w1 ⟨rfl, hb1⟩
  have HB1 := Lib.hid hb1
  clear hb1
  dsimp only
  go_wp2_with fail
  refine (Bd.build_any A n c of N A2 m c2 lk _ (HT.out.call HB1.out) HL.out ((HR.out.below HB1.out).more HB1.out.size) HL2.out HW2.out ((HR2.out.below HB1.out).more HB1.out.size) h0 h8 (by omega) (by omega) rfl).mono ?_
  rintro e w2 ⟨w0, B, sa, sc, L, A1, c1, σs, rfl, hb0, hf, hr, _, hLi, hrs⟩
  obtain ⟨σ, hσ⟩ : ∃ σ, lks (shps of) L lk σs = σ := ⟨_, rfl⟩
  rw [hσ] at hf hr
  have HB0 := Lib.hid (fresh_call HB1.out hb0)
  have HF := Lib.hid hf
  have HLR := Lib.hid hr
  have HRS := Lib.hid hrs
  have HOB := Lib.hid (Ob.of hf)
  clear hb0 hf hr hrs hσ HB1 HR HR2 HW2 HL2
  dsimp only
  go_wp2_with fail
  refine (Pil.new_any room _).mono ?_
  rintro e w3 ⟨rfl, hp3, hb3⟩
  have HRD := Lib.hid (Rd.start HB0.out HF.out HLR.out HRS.out hp3 hb3)
  clear hp3 hb3 HF HLR HRS HB0
  obtain ⟨zp, hzp⟩ : ∃ zp, w2.heap.size = zp := ⟨_, rfl⟩
  obtain ⟨zs, hzs⟩ : ∃ zs, w0.heap.size = zs := ⟨_, rfl⟩
  rw [hzp, hzs] at HRD
  rw [hzp]
  obtain ⟨hrm1, hrm2⟩ := rm_bd room
  obtain ⟨R, hR⟩ : ∃ R, rm room = R := ⟨_, rfl⟩
  rw [hR] at HRD hrm1 hrm2
  obtain ⟨ls, hls⟩ : ∃ ls, shps of = ls := ⟨_, rfl⟩
  rw [hls] at HRD HOB ⊢
  clear hzp hzs hR hls
  have HI := Lib.hid (Inv.start (ls := ls) HOB.out.wh)
  have HMU := Lib.hid (show mu σ ⟨col σ, [], false⟩ ≤ 2 * N from by
    unfold mu
    rw [HOB.out.num]
    rw [if_neg (fun h => by cases h.2)]
    omega)
  dsimp only
  go_wp2_with fail
  go_loopw [15] (fun iv wr => ∃ (q : Nat) (S : Int → Prop) (T : TS) (σ1 : HS) (v : Value), q ≤ k ∧ iv = .int .i64 (q : Int) ∧ Rd w wr ⟨B, ls, zp, zp, R, zs, sa, sc⟩ σ T σ1 v L A1 c1 ∧ Inv ls σ S noX T) (fun iv _ => k - (intOf iv).toNat)
  case atStart => exact ⟨0, _, _, _, _, Nat.zero_le _, rfl, HRD.out, HI.out⟩
  case round =>
    clear HRD HI HMU
    obtain ⟨q, S, T, σ1, v, hq, rfl, hrd, hi⟩ := hrel
    have HRD := Lib.hid hrd
    have HI := Lib.hid hi
    clear hrd hi
    obtain ⟨w4, rfl⟩ : ∃ w4 : World, w4 = wr := ⟨_, rfl⟩
    go_upto_region 8 with (fail)
    go_cut [80] from 72 to 80 (fun p wx => p = .bool (decide (q < k) && decide (0 < L.length)) ∧ wx = w4)
    case first =>
      by_cases h1 : q < k
      · have h1' : (q : Int) < (k : Int) := by omega
        by_cases h2 : 0 < L.length
        · have h2' : (0 : Int) < (L.length : Int) := by omega
          go_wp2_with fail
          go_meet
          exact ⟨by simp [h1, h2], rfl⟩
        · have h2' : ¬ (0 : Int) < (L.length : Int) := by omega
          go_wp2_with fail
          go_meet
          exact ⟨by simp [h2], rfl⟩
      · have h1' : ¬ (q : Int) < (k : Int) := by omega
        go_wp2_with fail
        go_meet
        exact ⟨by simp [h1], rfl⟩
    case rest =>
    obtain ⟨hp, rfl⟩ := hcut
    subst hp
    obtain ⟨w4, rfl⟩ : ∃ w4 : World, w4 = wc := ⟨_, rfl⟩
    by_cases hqk : q < k ∧ 0 < L.length
    · obtain ⟨hqk, hLp⟩ := hqk
      have hbb : (decide (q < k) && decide (0 < L.length)) = true := by simp [hqk, hLp]
      rw [hbb]
      clear hbb
      have hqk2 : (q : Int) < (k : Int) := by omega
      obtain ⟨x, hx⟩ : ∃ x, fr[q]? = some x := ⟨_, List.getElem?_eq_getElem (by have := HL3.out; omega)⟩
      obtain ⟨rb, ro, rfl, hrb, hrc⟩ := (HR3.out.below HRD.out.tr.hw.bel).at_ (j := q) (u := .int .i64 x) (by simp [hx])
      obtain ⟨j, hj, hjx⟩ := Bit.idx x L.length (by omega) (by omega)
      obtain ⟨a, ha⟩ : ∃ a, L[j]? = some a := ⟨_, List.getElem?_eq_getElem hj⟩
      obtain ⟨g, hg, hgl, hcell⟩ := HRD.out.at_ ha
      have hab := HOB.out.bd a (List.mem_of_getElem? ha)
      have hszw := HRD.out.tr.hw.bel.size
      have hrb2 : rb < w4.heap.size := by omega
      subst hg
      clear hx ha
      go_wp2_with (simp only [hjx])
      have hA := fresh_alloc (Below.refl w4.heap.size w4) (.cells #[.int .i64 a] 3)
      refine (shade1_any w _ _ σ S T σ1 v a _ 1 H0.out (HRD.out.call hA).tr HI.out HOB.out.gd (by omega) ⟨w4.heap.size, 0, rfl, by simp, fun e => Nat.lt_irrefl _ (HRD.out.tr.foot_lt e), (Blk.new w4 #[.int .i64 a] 3).cell 0⟩).mono ?_
      rintro e w5 ⟨n5, T5, σ5, v5, rfl, hi5, htr5, hk5, hg5, _, _, _⟩
      have HRD5 := Lib.hid ((HRD.out.call hA).next htr5 hk5 hg5)
      have HI5 := Lib.hid hi5
      clear hi5 htr5 hk5 hg5 hA HRD HI hcell hrc hjx
      dsimp only
      go_wp2_with fail
      go_roundw
      case rel => exact ⟨q + 1, _, T5, σ5, v5, by omega, by go_num, HRD5.out, HI5.out⟩
      case measure => simp [intOf]; omega
    · have hbb : (decide (q < k) && decide (0 < L.length)) = false := by
        rw [Bool.and_eq_false_iff, decide_eq_false_iff_not, decide_eq_false_iff_not]
        omega
      rw [hbb]
      clear hbb hqk HR3 HL3
      have hmu0 : mu σ T ≤ 2 * N + 1 := by
        unfold mu
        rw [HOB.out.num]
        split <;> omega
      have hA := fresh_alloc (Below.refl w4.heap.size w4) (.map #[] 0)
      have HRD5 := Lib.hid (HRD.out.call hA)
      have HBM5 := Lib.hid (show BMap (w4.alloc (.map #[] 0)) w4.heap.size [] (fun _ => false) from BMap.made w4)
      have hnf5 : ¬ Tn.TB.foot ⟨B, ls, zp, zp, R, zs, sa, sc⟩ σ v w4.heap.size := fun e => Nat.lt_irrefl _ (HRD.out.tr.foot_lt e)
      have HNF5 := Lib.hid hnf5
      have hbz5 : B.z ≤ w4.heap.size := by have : B.z < w4.heap.size := HRD.out.tr.hw.hp.z_lt; omega
      have HNR5 := Lib.hid (show (Value.slice A1 L.length c1).ownBlock ≠ some w4.heap.size from fun e => Nat.lt_irrefl _ (HRD.out.row.lt _ e).2)
      clear hA HRD hnf5
      go_wp2_with fail
      obtain ⟨bm, hbm⟩ : ∃ bm, w4.heap.size = bm := ⟨_, rfl⟩
      rw [hbm] at HBM5 HNF5 hbz5 HNR5 ⊢
      generalize w4.alloc (.map #[] 0) = w5 at *
      clear hbm
      go_loopw [17, 18, 19, 20, 21, 22, 23, 24] (fun iv _ _ _ _ _ _ _ wr => ∃ (q : Nat) (T : TS) (σ1 : HS) (v : Value) (Tk : List Int) (f : Int → Bool), iv = .int .i64 (q : Int) ∧ Rd w wr ⟨B, ls, zp, zp, R, zs, sa, sc⟩ σ T σ1 v L A1 c1 ∧ Inv ls σ S noX T ∧ q + mu σ T ≤ 121 ∧ BMap wr bm Tk f ∧ Says f T ∧ Tk.length ≤ 100 * q ∧ ¬ Tn.TB.foot ⟨B, ls, zp, zp, R, zs, sa, sc⟩ σ v bm) (fun iv _ _ _ _ _ _ _ _ => 5000 - (intOf iv).toNat)
      case atStart => exact ⟨0, T, σ1, v, [], _, rfl, HRD5.out, HI.out, by omega, HBM5.out, (show Says (fun _ => false) T from fun x hx => (by cases hx)), by simp, HNF5.out⟩
      case round =>
        clear HRD5 HBM5 HNF5 HI
        obtain ⟨qq, T, σ1, v, Tk, f, rfl, hrd, hi, hmu, hbm, hsa, htk, hnf⟩ := hrel
        obtain ⟨q, rfl⟩ : ∃ q, q = qq := ⟨_, rfl⟩
        have HRD := Lib.hid hrd
        have HI := Lib.hid hi
        have HBM := Lib.hid hbm
        have HSA := Lib.hid hsa
        have HNF := Lib.hid hnf
        clear hrd hi hbm hsa hnf
        obtain ⟨w6, rfl⟩ : ∃ w6 : World, w6 = wr := ⟨_, rfl⟩
        have hq5 : (q : Int) < 5000 := by omega
        have HGR := Lib.hid (show greyOf σ1 = grs σ T by
          unfold greyOf grs
          rw [HRD.out.tr.evo.ps]
          exact List.filter_congr fun a _ => by rw [HRD.out.tr.col])
        have HGL := Lib.hid (show (grs σ T).length = cnt (All σ) T.c 1 from rfl)
        have hcl := cnt_le (All σ) T.c 1
        rw [HOB.out.num] at hcl
        go_wp2_with fail
        refine (greys_any B ls σ1 _ HRD.out.tr.hw.hp HRD.out.tr.hw.tab).mono ?_
        rw [HGR.out]
        rintro e w7 ⟨a7, c7, rfl, _, hb7⟩
        rw [HGL.out]
        have HRD7 := Lib.hid (HRD.out.call hb7)
        have HBM7 := Lib.hid (HBM.out.block (hb7.block bm HBM.out.lt))
        clear hb7 HRD HBM HGR HGL
        obtain ⟨G1, hG1⟩ : ∃ G1, cnt (All σ) T.c 1 = G1 := ⟨_, rfl⟩
        rw [hG1] at hcl ⊢
        have HG1 := Lib.hid hG1
        clear hG1
        dsimp only
        go_wp2_with fail
        refine (Pil.len_any _ _ _ _ _ _ _ HRD7.out.tr.pl).mono ?_
        rintro e w8 ⟨rfl, rfl⟩
        have HTL := Lib.hid (show T.l.length ≤ 1000 from Nat.le_trans HRD7.out.tr.len HRD7.out.tr.rm)
        dsimp only
        by_cases hfin : fin T
        · have hll : T.l.length = 0 := by rw [hfin.1]; rfl
          rw [hll]
          have HF := Lib.hid hfin
          have hlo := hfin.2
          have hg0 : G1 = 0 := by
            rw [← HG1.out]
            unfold Tn.cnt
            rw [List.length_eq_zero_iff, List.filter_eq_nil_iff]
            intro a _
            simpa using (HI.out.end_ hfin a).1
          subst hg0
          clear hfin hll
          go_wp2_with fail
          refine (Pil.lost_any _ _ _ _ _ _ _ HRD7.out.tr.pl).mono ?_
          rw [hlo]
          clear hlo
          rintro e w8 ⟨rfl, rfl⟩
          dsimp only
          go_wp2_with fail
          refine (Tn.step_end w _ _ σ T σ1 v HRD7.out.tr HF.out.1 HF.out.2).mono ?_
          rintro e w8 ⟨rfl, rfl⟩
          dsimp only
          go_wp2_with fail
          refine (greys_any B ls σ1 _ HRD7.out.tr.hw.hp HRD7.out.tr.hw.tab).mono ?_
          rw [show greyOf σ1 = grs σ T by
            unfold greyOf grs
            rw [HRD7.out.tr.evo.ps]
            exact List.filter_congr fun a _ => by rw [HRD7.out.tr.col]]
          rintro e w9 ⟨a9, c9, rfl, _, hb9⟩
          rw [show (grs σ T).length = cnt (All σ) T.c 1 from rfl, HG1.out]
          have HE := Lib.hid (HRD7.out.call hb9).tr.hw.bel
          clear hb9
          dsimp only
          go_wp2_with fail
          go_ret
          exact ⟨rfl, HE.out⟩
        · have HST := Lib.hid (HI.out.step HOB.out.gd hrm1 HRD7.out.tr.len hfin)
          have HSC := Lib.hid (step_any w _ _ σ S T σ1 v H0.out HRD7.out.tr HI.out hfin HOB.out.wds)
          have hmu8 := HST.out.mu
          have HI8 := Lib.hid HST.out.inv
          have HSA8 := Lib.hid (show Says f (stT ls σ R T).1 from fun x hx => HST.out.black x (HSA.out x hx))
          obtain ⟨G2, hG2⟩ : ∃ G2, cnt (All σ) (stT ls σ R T).1.c 1 = G2 := ⟨_, rfl⟩
          have hcl2 := cnt_le (All σ) (stT ls σ R T).1.c 1
          rw [HOB.out.num, hG2] at hcl2
          have hres : (((stT ls σ R T).2 = 0 ∧ T.l.length = 0 ∧ T.lost = true ∧ G2 = G1) ∨ ∃ n : Nat, (stT ls σ R T).2 = 1 + (n : Int) ∧ 0 < T.l.length ∧ G2 + 1 = G1 + n) := by
            rcases HST.out.res with ⟨h1, h2, h3, h4⟩ | ⟨n, h1, h2, h3, _⟩
            · exact .inl ⟨h1, by rw [h2]; rfl, h3, by rw [← hG2, h4]; exact HG1.out⟩
            · refine .inr ⟨n, h1, List.length_pos_iff.2 h2, ?_⟩
              rw [← hG2, ← HG1.out]
              exact h3
          obtain ⟨T8, hT8⟩ : ∃ T8, (stT ls σ R T).1 = T8 := ⟨_, rfl⟩
          obtain ⟨t, ht⟩ : ∃ t, (stT ls σ R T).2 = t := ⟨_, rfl⟩
          rw [hT8] at hmu8 HI8 HSA8 hG2 HSC
          rw [ht] at hres HSC
          have HG2 := Lib.hid hG2
          clear hT8 ht hG2 hfin HST HSA HI
          rcases hres with ⟨rfl, hl0, hlo, rfl⟩ | ⟨n, rfl, hl0, hgn⟩
          · rw [hl0]
            have hne : ((G2 : Int) != (G2 : Int)) = false := by rw [bne_eq_false_iff_eq]
            clear hl0
            go_wp2_with fail
            refine (Pil.lost_any _ _ _ _ _ _ _ HRD7.out.tr.pl).mono ?_
            rw [hlo]
            clear hlo
            rintro e w8 ⟨rfl, rfl⟩
            dsimp only
            go_wp2_with fail
            refine HSC.out.mono ?_
            rintro e w8 ⟨σ8, v8, rfl, htr8, hk8, hg8⟩
            have HRD8 := Lib.hid (HRD7.out.next htr8 hk8 hg8)
            have HBM8 := Lib.hid (HBM7.out.block (hk8.block bm HBM7.out.lt HNF.out))
            have HNF8 := Lib.hid (fun e => HNF.out (foot_grow hg8 HBM7.out.lt e))
            clear htr8 hk8 hg8 HRD7 HBM7 HNF HSC
            dsimp only
            go_wp2_with fail
            refine (greys_any B ls σ8 _ HRD8.out.tr.hw.hp HRD8.out.tr.hw.tab).mono ?_
            rw [show greyOf σ8 = grs σ T8 by
              unfold greyOf grs
              rw [HRD8.out.tr.evo.ps]
              exact List.filter_congr fun a _ => by rw [HRD8.out.tr.col]]
            rintro e w9 ⟨a9, c9, rfl, _, hb9⟩
            rw [show (grs σ T8).length = cnt (All σ) T8.c 1 from rfl, HG2.out]
            have HRD9 := Lib.hid (HRD8.out.call hb9)
            have HBM9 := Lib.hid (HBM8.out.block (hb9.block bm HBM8.out.lt))
            clear hb9 HRD8 HBM8
            dsimp only
            go_wp2_with fail
            clear hne

            go_loopw [23, 24] (fun iv _ wr => ∃ (r : Nat) (Tk : List Int) (f : Int → Bool), r ≤ L.length ∧ iv = .int .i64 (r : Int) ∧ Rd w wr ⟨B, ls, zp, zp, R, zs, sa, sc⟩ σ T8 σ8 v8 L A1 c1 ∧ BMap wr bm Tk f ∧ Says f T8 ∧ Tk.length ≤ 100 * q + r) (fun iv _ _ => L.length - (intOf iv).toNat)
            case atStart => exact ⟨0, Tk, f, Nat.zero_le _, rfl, HRD9.out, HBM9.out, HSA8.out, by omega⟩
            case round =>
              clear HRD9 HBM9 HSA8
              obtain ⟨r, Tk, f, hr, rfl, hrd, hbm, hsa, htk⟩ := hrel
              have HRD := Lib.hid hrd
              have HBM := Lib.hid hbm
              have HSA := Lib.hid hsa
              clear hrd hbm hsa
              obtain ⟨w10, rfl⟩ : ∃ w10 : World, w10 = wr := ⟨_, rfl⟩
              by_cases hrl : r < L.length
              · have hrl2 : (r : Int) < (L.length : Int) := by omega
                obtain ⟨a, ha⟩ : ∃ a, L[r]? = some a := ⟨_, List.getElem?_eq_getElem hrl⟩
                obtain ⟨g, hg, hgl, hcell⟩ := HRD.out.at_ ha
                have hab := HOB.out.bd a (List.mem_of_getElem? ha)
                subst hg
                clear ha
                go_wp2_with fail
                refine (color_any B ls σ8 a _ HRD.out.tr.hw.hp (by omega)).mono ?_
                rw [HRD.out.tr.col]
                rintro e w11 ⟨rfl, hb11⟩
                have HRD11 := Lib.hid (HRD.out.call hb11)
                have HBM11 := Lib.hid (HBM.out.block (hb11.block bm HBM.out.lt))
                have hcell11 := (hb11.cell (p := ⟨g, r, none⟩) hgl).trans hcell
                have hgl11 : g < w11.heap.size := by have := hb11.size; omega
                have hlk := HBM11.out.look a (wf_addr hab)
                clear hb11 hcell HRD HBM
                have hup : ∀ z : Bool, (z = true → T8.c a = 2) → Says (fun x => if x = a then z else f x) T8 := fun z hz => HSA.out.upd hz
                have hfa := HSA.out a
                by_cases hc2 : T8.c a = 2
                · have HUP := Lib.hid (hup true (fun _ => hc2))
                  have hce : (T8.c a == 2) = true := by simp [hc2]
                  rw [hc2] at hce ⊢
                  clear hup hfa hc2
                  rcases hfv : f a with _ | _
                  · rw [hfv] at hlk
                    clear hfv
                    dsimp only
                    go_wp2_with (first
                      | (at_mapUpdate; go_loud (refine wpList_updB rfl _ _ _ rfl a true rfl rfl rfl HBM11.out (by unfold maxLen; omega) (wf_addr hab) ?_; intro w12 hb12 hg12))
                      | fail)
                    have hk12 := Kept.of_grown hg12
                    have HRD12 := Lib.hid (HRD11.out.aside H0.out hk12 (fun i e => by cases e; exact ⟨HNF8.out, hbz5, HNR5.out⟩))
                    have HBM12 := Lib.hid hb12
                    clear hb12 hg12 hk12 HRD11 HBM11 hlk
                    go_wp2_with fail
                    go_roundw
                    case rel => exact ⟨r + 1, addT Tk a, _, by omega, by go_num, HRD12.out, HBM12.out, HUP.out, by have := addT_len Tk a; omega⟩
                    case measure => simp [intOf]; omega
                  · rw [hfv] at hlk
                    clear hfv
                    dsimp only
                    go_wp2_with (first
                      | (at_mapUpdate; go_loud (refine wpList_updB rfl _ _ _ rfl a true rfl rfl rfl HBM11.out (by unfold maxLen; omega) (wf_addr hab) ?_; intro w12 hb12 hg12))
                      | fail)
                    have hk12 := Kept.of_grown hg12
                    have HRD12 := Lib.hid (HRD11.out.aside H0.out hk12 (fun i e => by cases e; exact ⟨HNF8.out, hbz5, HNR5.out⟩))
                    have HBM12 := Lib.hid hb12
                    clear hb12 hg12 hk12 HRD11 HBM11 hlk
                    go_wp2_with fail
                    go_roundw
                    case rel => exact ⟨r + 1, addT Tk a, _, by omega, by go_num, HRD12.out, HBM12.out, HUP.out, by have := addT_len Tk a; omega⟩
                    case measure => simp [intOf]; omega
                · have HUP := Lib.hid (hup false (fun h => by cases h))
                  have hfv : f a = false := by
                    rcases h : f a with _ | _
                    · rfl
                    · exact absurd (hfa h) hc2
                  have hce : (T8.c a == 2) = false := by simp [hc2]
                  rw [hfv] at hlk
                  generalize T8.c a = col at *
                  clear hup hfa hc2 hfv
                  dsimp only
                  go_wp2_with (first
                    | (at_mapUpdate; go_loud (refine wpList_updB rfl _ _ _ rfl a false rfl rfl rfl HBM11.out (by unfold maxLen; omega) (wf_addr hab) ?_; intro w12 hb12 hg12))
                    | fail)
                  have hk12 := Kept.of_grown hg12
                  have HRD12 := Lib.hid (HRD11.out.aside H0.out hk12 (fun i e => by cases e; exact ⟨HNF8.out, hbz5, HNR5.out⟩))
                  have HBM12 := Lib.hid hb12
                  clear hb12 hg12 hk12 HRD11 HBM11 hlk
                  go_wp2_with fail
                  go_roundw
                  case rel => exact ⟨r + 1, addT Tk a, _, by omega, by go_num, HRD12.out, HBM12.out, HUP.out, by have := addT_len Tk a; omega⟩
                  case measure => simp [intOf]; omega
              · obtain rfl : r = L.length := by omega
                have hrl2 : ¬ (L.length : Int) < (L.length : Int) := by omega
                have hLN : L.length ≤ 60 := by omega
                go_wp2_with fail
                go_roundw
                case rel => exact ⟨q + 1, T8, σ8, v8, Tk, f, by go_num, HRD.out, HI8.out, by omega, HBM.out, HSA.out, by omega, HNF8.out⟩
                case measure => simp [intOf]; omega
          · have hl1 : ((T.l.length : Int) == 0) = false := by rw [beq_eq_false_iff_ne]; omega
            have ht1 : ((1 + (n : Int)) == -1) = false := by rw [beq_eq_false_iff_ne]; omega
            have ht2 : ((1 + (n : Int)) == 0) = false := by rw [beq_eq_false_iff_ne]; omega
            have ht3 : (0 : Int) < 1 + (n : Int) := by omega
            have ht4 : ¬ (1 + (n : Int)) < -1 := by omega
            have hn60 : n ≤ 200 := by omega
            have hne : ((G2 : Int) != (G1 : Int) - 1 + (1 + (n : Int)) - 1) = false := by rw [bne_eq_false_iff_eq]; omega
            have htl := HTL.out
            obtain ⟨lo, hlo⟩ : ∃ lo, T.lost = lo := ⟨_, rfl⟩
            clear hl0
            go_wp2_with fail
            refine (Pil.lost_any _ _ _ _ _ _ _ HRD7.out.tr.pl).mono ?_
            rw [hlo]
            clear hlo
            rintro e w8 ⟨rfl, rfl⟩
            dsimp only
            go_wp2_with fail
            refine HSC.out.mono ?_
            rintro e w8 ⟨σ8, v8, rfl, htr8, hk8, hg8⟩
            have HRD8 := Lib.hid (HRD7.out.next htr8 hk8 hg8)
            have HBM8 := Lib.hid (HBM7.out.block (hk8.block bm HBM7.out.lt HNF.out))
            have HNF8 := Lib.hid (fun e => HNF.out (foot_grow hg8 HBM7.out.lt e))
            clear htr8 hk8 hg8 HRD7 HBM7 HNF HSC
            dsimp only
            go_wp2_with fail
            refine (greys_any B ls σ8 _ HRD8.out.tr.hw.hp HRD8.out.tr.hw.tab).mono ?_
            rw [show greyOf σ8 = grs σ T8 by
              unfold greyOf grs
              rw [HRD8.out.tr.evo.ps]
              exact List.filter_congr fun a _ => by rw [HRD8.out.tr.col]]
            rintro e w9 ⟨a9, c9, rfl, _, hb9⟩
            rw [show (grs σ T8).length = cnt (All σ) T8.c 1 from rfl, HG2.out]
            have HRD9 := Lib.hid (HRD8.out.call hb9)
            have HBM9 := Lib.hid (HBM8.out.block (hb9.block bm HBM8.out.lt))
            clear hb9 HRD8 HBM8
            dsimp only
            go_wp2_with fail
            clear hne hl1 ht1 ht2 ht3 ht4

            go_loopw [23, 24] (fun iv _ wr => ∃ (r : Nat) (Tk : List Int) (f : Int → Bool), r ≤ L.length ∧ iv = .int .i64 (r : Int) ∧ Rd w wr ⟨B, ls, zp, zp, R, zs, sa, sc⟩ σ T8 σ8 v8 L A1 c1 ∧ BMap wr bm Tk f ∧ Says f T8 ∧ Tk.length ≤ 100 * q + r) (fun iv _ _ => L.length - (intOf iv).toNat)
            case atStart => exact ⟨0, Tk, f, Nat.zero_le _, rfl, HRD9.out, HBM9.out, HSA8.out, by omega⟩
            case round =>
              clear HRD9 HBM9 HSA8
              obtain ⟨r, Tk, f, hr, rfl, hrd, hbm, hsa, htk⟩ := hrel
              have HRD := Lib.hid hrd
              have HBM := Lib.hid hbm
              have HSA := Lib.hid hsa
              clear hrd hbm hsa
              obtain ⟨w10, rfl⟩ : ∃ w10 : World, w10 = wr := ⟨_, rfl⟩
              by_cases hrl : r < L.length
              · have hrl2 : (r : Int) < (L.length : Int) := by omega
                obtain ⟨a, ha⟩ : ∃ a, L[r]? = some a := ⟨_, List.getElem?_eq_getElem hrl⟩
                obtain ⟨g, hg, hgl, hcell⟩ := HRD.out.at_ ha
                have hab := HOB.out.bd a (List.mem_of_getElem? ha)
                subst hg
                clear ha
                go_wp2_with fail
                refine (color_any B ls σ8 a _ HRD.out.tr.hw.hp (by omega)).mono ?_
                rw [HRD.out.tr.col]
                rintro e w11 ⟨rfl, hb11⟩
                have HRD11 := Lib.hid (HRD.out.call hb11)
                have HBM11 := Lib.hid (HBM.out.block (hb11.block bm HBM.out.lt))
                have hcell11 := (hb11.cell (p := ⟨g, r, none⟩) hgl).trans hcell
                have hgl11 : g < w11.heap.size := by have := hb11.size; omega
                have hlk := HBM11.out.look a (wf_addr hab)
                clear hb11 hcell HRD HBM
                have hup : ∀ z : Bool, (z = true → T8.c a = 2) → Says (fun x => if x = a then z else f x) T8 := fun z hz => HSA.out.upd hz
                have hfa := HSA.out a
                by_cases hc2 : T8.c a = 2
                · have HUP := Lib.hid (hup true (fun _ => hc2))
                  have hce : (T8.c a == 2) = true := by simp [hc2]
                  rw [hc2] at hce ⊢
                  clear hup hfa hc2
                  rcases hfv : f a with _ | _
                  · rw [hfv] at hlk
                    clear hfv
                    dsimp only
                    go_wp2_with (first
                      | (at_mapUpdate; go_loud (refine wpList_updB rfl _ _ _ rfl a true rfl rfl rfl HBM11.out (by unfold maxLen; omega) (wf_addr hab) ?_; intro w12 hb12 hg12))
                      | fail)
                    have hk12 := Kept.of_grown hg12
                    have HRD12 := Lib.hid (HRD11.out.aside H0.out hk12 (fun i e => by cases e; exact ⟨HNF8.out, hbz5, HNR5.out⟩))
                    have HBM12 := Lib.hid hb12
                    clear hb12 hg12 hk12 HRD11 HBM11 hlk
                    go_wp2_with fail
                    go_roundw
                    case rel => exact ⟨r + 1, addT Tk a, _, by omega, by go_num, HRD12.out, HBM12.out, HUP.out, by have := addT_len Tk a; omega⟩
                    case measure => simp [intOf]; omega
                  · rw [hfv] at hlk
                    clear hfv
                    dsimp only
                    go_wp2_with (first
                      | (at_mapUpdate; go_loud (refine wpList_updB rfl _ _ _ rfl a true rfl rfl rfl HBM11.out (by unfold maxLen; omega) (wf_addr hab) ?_; intro w12 hb12 hg12))
                      | fail)
                    have hk12 := Kept.of_grown hg12
                    have HRD12 := Lib.hid (HRD11.out.aside H0.out hk12 (fun i e => by cases e; exact ⟨HNF8.out, hbz5, HNR5.out⟩))
                    have HBM12 := Lib.hid hb12
                    clear hb12 hg12 hk12 HRD11 HBM11 hlk
                    go_wp2_with fail
                    go_roundw
                    case rel => exact ⟨r + 1, addT Tk a, _, by omega, by go_num, HRD12.out, HBM12.out, HUP.out, by have := addT_len Tk a; omega⟩
                    case measure => simp [intOf]; omega
                · have HUP := Lib.hid (hup false (fun h => by cases h))
                  have hfv : f a = false := by
                    rcases h : f a with _ | _
                    · rfl
                    · exact absurd (hfa h) hc2
                  have hce : (T8.c a == 2) = false := by simp [hc2]
                  rw [hfv] at hlk
                  generalize T8.c a = col at *
                  clear hup hfa hc2 hfv
                  dsimp only
                  go_wp2_with (first
                    | (at_mapUpdate; go_loud (refine wpList_updB rfl _ _ _ rfl a false rfl rfl rfl HBM11.out (by unfold maxLen; omega) (wf_addr hab) ?_; intro w12 hb12 hg12))
                    | fail)
                  have hk12 := Kept.of_grown hg12
                  have HRD12 := Lib.hid (HRD11.out.aside H0.out hk12 (fun i e => by cases e; exact ⟨HNF8.out, hbz5, HNR5.out⟩))
                  have HBM12 := Lib.hid hb12
                  clear hb12 hg12 hk12 HRD11 HBM11 hlk
                  go_wp2_with fail
                  go_roundw
                  case rel => exact ⟨r + 1, addT Tk a, _, by omega, by go_num, HRD12.out, HBM12.out, HUP.out, by have := addT_len Tk a; omega⟩
                  case measure => simp [intOf]; omega
              · obtain rfl : r = L.length := by omega
                have hrl2 : ¬ (L.length : Int) < (L.length : Int) := by omega
                have hLN : L.length ≤ 60 := by omega
                go_wp2_with fail
                go_roundw
                case rel => exact ⟨q + 1, T8, σ8, v8, Tk, f, by go_num, HRD.out, HI8.out, by omega, HBM.out, HSA.out, by omega, HNF8.out⟩
                case measure => simp [intOf]; omega
theorem walk (A : Option Addr) (n c : Nat) (of : List Int) (N : Int) (A2 : Option Addr) (m c2 : Nat) (lk : List (Int × Int × Int)) (A3 : Option Addr) (k c3 : Nat) (fr : List Int) (room : Int) (w : World) (hT : Pg.Tab w) (hl : of.length = n) (_wl : ∀ x ∈ of, (Lit.int .i64 x).wf = true) (hR : Reads w w.heap.size 1 A n c (of.map (.int .i64)))
    (_w1 : (Lit.int .i64 N).wf = true) (hl2 : lk.length = m) (wl2 : ∀ x ∈ lk, (Lit.int .i64 x.1).wf = true ∧ (Lit.int .i64 x.2.1).wf = true ∧ (Lit.int .i64 x.2.2).wf = true) (hR2 : Reads w w.heap.size 3 A2 m c2 (tripCells lk)) (hl3 : fr.length = k) (_wl3 : ∀ x ∈ fr, (Lit.int .i64 x).wf = true) (hR3 : Reads w w.heap.size 1 A3 k c3 (fr.map (.int .i64))) (_w4 : (Lit.int .i64 room).wf = true) :
    Calls Tryd.prog 9 #[.slice A n c, .int .i64 N, .slice A2 m c2, .slice A3 k c3, .int .i64 room] w fun e w' => e = .returned (.bool true) ∧ Below w.heap.size w w' := by
  have hmm : m ≤ 9223372036854775807 := by have := hR2.1; have := hR2.2.1; unfold maxLen at this; omega
  have hkk : k ≤ 9223372036854775807 := by have := hR3.1; have := hR3.2.1; unfold maxLen at this; omega
  by_cases h : n < 1 ∨ 8 < n ∨ N < 0 ∨ 60 < N ∨ 150 < m ∨ 20 < k
  · exact early A n c N A2 m c2 A3 k c3 room w hT hmm hkk h
  · obtain ⟨M, rfl⟩ : ∃ M : Nat, N = (M : Int) := ⟨N.toNat, by omega⟩
    exact core A n c of M A2 m c2 lk A3 k c3 fr room w hT hl hR hl2 (fun q hq => Bd.wf_max (wl2 q hq).2.2) hR2 hl3 hR3 (by omega) (by omega) (by omega) (by omega) (by omega)
end Go.Proofs.YtoajbjeiplolnaaDoorR.TintSteps
