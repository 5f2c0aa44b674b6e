/- The walk of besomlaw20.TintLate: it returns true, and writes nothing that was there. -/
import Derived.Test.YtoajbjeiplolnaaDoorRTb
namespace Go.Proofs.YtoajbjeiplolnaaDoorR.Tn
open Go.RowKit Ar Hp
set_option linter.unusedSimpArgs false
set_option linter.unusedVariables false

theorem Same.fo_ {σ τ : HS} (h : Same σ τ) (v : Int) : fo σ v = fo τ v := by
  unfold fo
  rw [h.slot_, h.fbase_]
theorem Same.ptrs_ {σ τ : HS} (h : Same σ τ) (ls : List (List Int)) (a : Int) : ptrs ls σ a = ptrs ls τ a := by
  unfold ptrs
  rw [h.hat_]
  split
  · rfl
  · rw [h.nfl_, h.M, h.ws]
theorem Same.rch {σ τ : HS} (h : Same σ τ) {ls : List (List Int)} {S : Int → Prop} {a : Int} (hr : Rch ls σ S a) : Rch ls τ S a := by
  induction hr with
  | base hs => exact .base hs
  | step _ hv hb ih => exact .step ih (by rw [← Same.ptrs_ h]; exact hv) (by rw [← Same.fo_ h]; exact hb)
/-- Two heaps with their piles, a list of the one's objects. -/
structure Two (w wr : World) (E : TB) (σ : HS) (T : TS) (σ1 : HS) (v : Value) (L : List Int) (A : Option Addr) (c : Nat) (E' : TB) (τ : HS) (T' : TS) (τ1 : HS) (v' : Value) : Prop where
  one : Rd w wr E σ T σ1 v L A c
  two : TR w wr E' τ T' τ1 v'
  dj : ∀ i, E.foot σ v i → ¬ E'.foot τ v' i
  lt : ∀ i, HFoot E.B σ i → i < E'.B.y
  hz : E'.B.z ≤ E.zp
  hz1 : E.B.z ≤ E'.B.z
  zs : E'.zs ≤ E.B.z
  rf : ∀ i, (Value.slice A L.length c).ownBlock = some i → ¬ E'.foot τ v' i
namespace Two
variable {w wr w' : World} {E E' : TB} {σ σ1 σ2 τ τ1 τ2 : HS} {T T' U : TS} {v v' u : Value} {L : List Int} {A : Option Addr} {c : Nat}
theorem call (h : Two w wr E σ T σ1 v L A c E' τ T' τ1 v') (hb : Below wr.heap.size wr w') : Two w w' E σ T σ1 v L A c E' τ T' τ1 v' := { h with one := h.one.call hb, two := h.two.call hb }
theorem first (h : Two w wr E σ T σ1 v L A c E' τ T' τ1 v') (h0 : 0 < w.heap.size) (ht : TR w w' E σ U σ2 u) (hk : Kept (E.foot σ v) wr w') (hg : Pil.Grow v u wr.heap.size) : Two w w' E σ U σ2 u L A c E' τ T' τ1 v' := by
  have hS : ∀ i, E.foot σ v i → w.heap.size ≤ i ∧ (i < E'.B.y ∨ E'.B.z ≤ i) ∧ E'.zs ≤ i := fun i hi => by
    have h1 := h.one.tr.foot_z hi
    have h2 := h.one.tr.hw.new
    have h3 := h.zs
    refine ⟨by omega, ?_, by omega⟩
    rcases hi with hi | hi
    · exact .inl (h.lt i hi)
    · exact .inr (Nat.le_trans h.hz (h.one.tr.pl.base hi))
  refine ⟨h.one.next ht hk hg, { h.two with
    hw := ⟨h.two.hw.hp.kept hk (fun i hi e => by
      rcases hi with hi | hi
      · exact h.dj i e (.inl (h.two.evo.foot hi))
      · have := (hS i e).2.1; omega), h.two.hw.newy, h.two.hw.bel.trans (hk.below h.two.hw.bel.size fun i hi e => by have := (hS i e).1; omega), h.two.hw.tab.kept hk (fun e => by have := (hS _ e).1; omega)⟩
    pl := h.two.pl.keep fun k hk2 => hk.block k (h.two.pl.lt hk2) (fun e => h.dj k e (.inr hk2))
    sh := rs_same h.two.sh fun i hi => hk.block i (by have := h.two.hw.hp.z_lt; have := h.two.zs; omega) (fun e => by have := (hS i e).2.2; omega) }, fun i hi e => ?_, h.lt, h.hz, h.hz1, h.zs, h.rf⟩
  have hlt := h.two.foot_lt e
  exact h.dj i (foot_grow hg hlt hi) e
theorem second (h : Two w wr E σ T σ1 v L A c E' τ T' τ1 v') (h0 : 0 < w.heap.size) (ht : TR w w' E' τ U τ2 u) (hk : Kept (E'.foot τ v') wr w') (hg : Pil.Grow v' u wr.heap.size) : Two w w' E σ T σ1 v L A c E' τ U τ2 u :=
  ⟨h.one.aside h0 hk fun i hi => ⟨fun e => h.dj i e hi, Nat.le_trans h.hz1 (h.two.foot_z hi), fun e => h.rf i e hi⟩, ht, fun i hi e => h.dj i hi (foot_grow hg (h.one.tr.foot_lt hi) e), h.lt, h.hz, h.hz1, h.zs, fun i hi e => h.rf i hi (foot_grow hg (h.one.row.lt i hi).2 e)⟩
end Two
end Go.Proofs.YtoajbjeiplolnaaDoorR.Tn
namespace Go.Proofs.YtoajbjeiplolnaaDoorR.TintLate
open Go.RowKit Ar Hp Tn
set_option linter.unusedSimpArgs false
set_option linter.unusedVariables false

set_option maxRecDepth 100000 in
theorem early (A : Option Addr) (n c : Nat) (N : Int) (A2 : Option Addr) (m c2 : Nat) (A3 : Option Addr) (k c3 : Nat) (room : Int) (w : World) (hT : Pg.Tab w) (hm : m ≤ 9223372036854775807) (hk : k ≤ 9223372036854775807) (h : n < 1 ∨ 8 < n ∨ N < 1 ∨ 60 < N ∨ 150 < m ∨ 20 < k) :
    Calls Tryd.prog 15 #[.slice A n c, .int .i64 N, .slice A2 m c2, .slice A3 k c3, .int .i64 room] w fun e w' => e = .returned (.bool true) ∧ Below w.heap.size w w' := by
  have HT := Lib.hid hT
  clear hT
  by_cases h0 : n < 1
  · have h0' : (n : Int) < 1 := by omega
    clear h0
    clear h
    go_enter Tryd.func15, Tryd.ntmps15
    go_wp2_with fail
    refine (Tn.alive _ HT.out).mono ?_
    rintro e w1 ⟨rfl, hb⟩
    dsimp only
    go_wp2_with fail
    go_ret
    exact ⟨rfl, hb⟩
  · have h0' : ¬ (n : Int) < 1 := by omega
    by_cases h1 : 8 < n
    · have h1' : (8 : Int) < (n : Int) := by omega
      clear h1
      clear h
      go_enter Tryd.func15, Tryd.ntmps15
      go_wp2_with fail
      refine (Tn.alive _ HT.out).mono ?_
      rintro e w1 ⟨rfl, hb⟩
      dsimp only
      go_wp2_with fail
      go_ret
      exact ⟨rfl, hb⟩
    · have h1' : ¬ (8 : Int) < (n : Int) := by omega
      by_cases h2 : N < 1
      · clear h
        go_enter Tryd.func15, Tryd.ntmps15
        go_wp2_with fail
        refine (Tn.alive _ HT.out).mono ?_
        rintro e w1 ⟨rfl, hb⟩
        dsimp only
        go_wp2_with fail
        go_ret
        exact ⟨rfl, hb⟩
      · by_cases h3 : 60 < N
        · clear h
          go_enter Tryd.func15, Tryd.ntmps15
          go_wp2_with fail
          refine (Tn.alive _ HT.out).mono ?_
          rintro e w1 ⟨rfl, hb⟩
          dsimp only
          go_wp2_with fail
          go_ret
          exact ⟨rfl, hb⟩
        · by_cases h4 : 150 < m
          · have h4' : (150 : Int) < (m : Int) := by omega
            clear h4
            clear h
            go_enter Tryd.func15, Tryd.ntmps15
            go_wp2_with fail
            refine (Tn.alive _ HT.out).mono ?_
            rintro e w1 ⟨rfl, hb⟩
            dsimp only
            go_wp2_with fail
            go_ret
            exact ⟨rfl, hb⟩
          · have h4' : ¬ (150 : Int) < (m : Int) := by omega
            have h5 : 20 < k := by omega
            have h5' : (20 : Int) < (k : Int) := by omega
            clear h5
            clear h
            go_enter Tryd.func15, Tryd.ntmps15
            go_wp2_with fail
            refine (Tn.alive _ HT.out).mono ?_
            rintro e w1 ⟨rfl, hb⟩
            dsimp only
            go_wp2_with fail
            go_ret
            exact ⟨rfl, hb⟩

theorem mu_le {σ : HS} {T : TS} {L N : Nat} (h : (All σ).length = L) (hL : L ≤ N) : mu σ T ≤ 2 * N + 1 := by
  unfold mu
  rw [h]
  split <;> omega
set_option maxRecDepth 100000 in
set_option maxHeartbeats 4000000 in
theorem core (A : Option Addr) (n c : Nat) (of : List Int) (N : Nat) (A2 : Option Addr) (m c2 : Nat) (lk : List Link) (A3 : Option Addr) (k c3 : Nat) (fr : List Int) (room : Int) (w : World) (hT : Pg.Tab w) (hl : of.length = n) (hR : Reads w w.heap.size 1 A n c (of.map (.int .i64))) (hl2 : lk.length = m) (hw2 : ∀ q ∈ lk, q.2.2 ≤ 9223372036854775807) (hR2 : Reads w w.heap.size 3 A2 m c2 (tripCells lk)) (hl3 : fr.length = k) (hR3 : Reads w w.heap.size 1 A3 k c3 (fr.map (.int .i64))) (h0 : 1 ≤ n) (h8 : n ≤ 8) (hN0 : 1 ≤ N) (hN : N ≤ 60) (hm : m ≤ 150) (hk : k ≤ 20) :
    Calls Tryd.prog 15 #[.slice A n c, .int .i64 (N : Int), .slice A2 m c2, .slice A3 k c3, .int .i64 room] w fun e w' => e = .returned (.bool true) ∧ Below w.heap.size w w' := by
  have HT := Lib.hid hT
  have H0 := Lib.hid hT.1
  have HL := Lib.hid hl
  have HR := Lib.hid hR
  have HL2 := Lib.hid hl2
  have HW2 := Lib.hid hw2
  have HR2 := Lib.hid hR2
  have HL3 := Lib.hid hl3
  have HR3 := Lib.hid hR3
  have h1' : ¬ (n : Int) < 1 := by omega
  have h2' : ¬ (8 : Int) < (n : Int) := by omega
  have h4' : ¬ (N : Int) < 1 := by omega
  have h5' : ¬ (60 : Int) < (N : Int) := by omega
  have h6' : ¬ (150 : Int) < (m : Int) := by omega
  have h7' : ¬ (20 : Int) < (k : Int) := by omega
  clear hT hl hR hl2 hw2 hR2 hl3 hR3
  go_enter Tryd.func15, Tryd.ntmps15
  go_wp2_with fail
  refine (Tn.alive _ HT.out).mono ?_
  rintro e w1 ⟨rfl, hb1⟩
  have HB1 := Lib.hid hb1
  clear hb1
  dsimp only
  go_wp2_with fail
  refine (Bd.build_any A n c of N A2 m c2 lk _ (HT.out.call HB1.out) HL.out ((HR.out.below HB1.out).more HB1.out.size) HL2.out HW2.out ((HR2.out.below HB1.out).more HB1.out.size) h0 h8 (by omega) (by omega) rfl).mono ?_
  rintro e w2 ⟨w01, B, sa, sc, L, A1, c1, σs, rfl, hb0, hf, hr, hru, hLi, hrs⟩
  have HB0 := Lib.hid (fresh_call HB1.out hb0)
  have HB2 := Lib.hid (fresh_call HB0.out hf.hw.bel)
  have HF := Lib.hid hf
  have HLR := Lib.hid hr
  have HRS := Lib.hid hrs
  have HRU := Lib.hid hru
  have HOB := Lib.hid (Ob.of hf)
  clear hb0 hf hr hrs hru HB1
  dsimp only
  go_wp2_with fail
  refine (Bd.build_any A n c of N A2 m c2 lk _ (HT.out.call HB2.out) HL.out ((HR.out.below HB2.out).more HB2.out.size) HL2.out HW2.out ((HR2.out.below HB2.out).more HB2.out.size) h0 h8 (by omega) (by omega) rfl).mono ?_
  rintro e w3 ⟨w02, B2, sa2, sc2, L', A2', c2', τs, rfl, hb02, hf2, _, hru2, _, _⟩
  obtain ⟨hsm, rfl⟩ := RunX.uniq HRU.out hru2
  have hb23 := fresh_call hb02 hf2.hw.bel
  obtain ⟨σ, hσ⟩ : ∃ σ, lks (shps of) L lk σs = σ := ⟨_, rfl⟩
  obtain ⟨τ, hτ⟩ : ∃ τ, lks (shps of) L lk τs = τ := ⟨_, rfl⟩
  have HSM := Lib.hid (show Same σ τ by rw [← hσ, ← hτ]; exact Same.lks lk hsm)
  rw [hσ] at HF HLR HOB
  rw [hτ] at hf2
  have HF3 := Lib.hid (HF.out.call hb23)
  have HLR3 := Lib.hid (HLR.out.call hb23)
  have HX3 := Lib.hid (show HW w w3 B2 (shps of) τ from ⟨hf2.hw.hp, Nat.le_trans (fresh_call HB2.out hb02).size hf2.hw.newy, fresh_call (fresh_call HB2.out hb02) hf2.hw.bel, hf2.hw.tab⟩)
  have HOX := Lib.hid (Ob.of hf2)
  have HLT := Lib.hid (show ∀ i, HFoot B σ i → i < B2.y from fun i hi => Nat.lt_of_lt_of_le (HF.out.hw.hp.lt hi) (Nat.le_trans hb02.size hf2.hw.newy))
  have HRB := Lib.hid (show ∀ i, (Value.slice A1 L.length c1).ownBlock = some i → i < B2.y from fun i hi => Nat.lt_of_lt_of_le (HLR.out.own.lt i hi).2 (Nat.le_trans hb02.size hf2.hw.newy))
  have hzy : B.z ≤ B2.y := Nat.le_trans (Nat.le_of_lt HF.out.hw.hp.z_lt) (Nat.le_trans hb02.size hf2.hw.newy)
  have hzs01 : w01.heap.size ≤ B.z := HF.out.hw.new
  clear hb02 hf2 hru2 hsm hσ hτ hb23 HR HR2 HW2 HL2 HB2 HF HLR HRU
  dsimp only
  go_wp2_with fail
  refine (Pil.new_any room _).mono ?_
  rintro e w4 ⟨rfl, hp4, hb4⟩
  have HRD4 := Lib.hid (Rd.start HB0.out HF3.out HLR3.out HRS.out hp4 hb4)
  have HX4 := Lib.hid (HX3.out.call hb4)
  have hzp2 : B2.z ≤ w3.heap.size := Nat.le_of_lt HX3.out.hp.z_lt
  have hlt3 : ∀ i, HFoot B2 τ i → i < w3.heap.size := fun i hi => HX3.out.hp.lt hi
  have HLT3 := Lib.hid hlt3
  have hw34 := hp4.1.lt
  obtain ⟨zp, hzp⟩ : ∃ zp, w3.heap.size = zp := ⟨_, rfl⟩
  obtain ⟨zs, hzs⟩ : ∃ zs, w01.heap.size = zs := ⟨_, rfl⟩
  rw [hzp] at hzp2 HLT3 hw34
  rw [hzs] at hzs01
  rw [hzp, hzs] at HRD4
  rw [hzp]
  clear hp4 hb4 HF3 HLR3 HRS HB0 HX3 hlt3 hzp hzs
  dsimp only
  go_wp2_with fail
  refine (Pil.new_any 1000 _).mono ?_
  rintro e w5 ⟨rfl, hp5, hb5⟩
  rw [show (min (max (1000 : Int) 1) 1000).toNat = 1000 by decide] at hp5
  have HRD5 := Lib.hid (HRD4.out.call hb5)
  have hph := PH.made HX4.out hp5 hb5
  have hzz : B2.y ≤ B2.z := HX4.out.hp.yz
  have HTR5 := Lib.hid (show TR w w5 ⟨B2, shps of, w4.heap.size, w4.heap.size, 1000, zs, sa, sc⟩ τ ⟨col τ, [], false⟩ τ (.slice none 0 0) from hph.tr (by omega) HRD5.out.tr.sh (by omega))
  have hdj : ∀ i, Tn.TB.foot ⟨B, shps of, zp, zp, rm room, zs, sa, sc⟩ σ (.slice none 0 0) i → ¬ Tn.TB.foot ⟨B2, shps of, w4.heap.size, w4.heap.size, 1000, zs, sa, sc⟩ τ (.slice none 0 0) i := fun i hi e => by
    rcases e with e | rfl | e
    · have h1 := HLT3.out i e
      have h2 : B2.z ≤ i := HTR5.out.hw.hp.new i e
      rcases hi with hi | rfl | hi
      · have h3 : i < B2.y := HLT.out i hi
        omega
      · exact Nat.lt_irrefl _ h1
      · cases hi
    · exact Nat.lt_irrefl _ (HRD4.out.tr.foot_lt hi)
    · cases e
  have hrf : ∀ i, (Value.slice A1 L.length c1).ownBlock = some i → ¬ Tn.TB.foot ⟨B2, shps of, w4.heap.size, w4.heap.size, 1000, zs, sa, sc⟩ τ (.slice none 0 0) i := fun i hi e => by
    have h1 := HRB.out i hi
    rcases e with e | rfl | e
    · have h2 : B2.z ≤ i := HTR5.out.hw.hp.new i e
      omega
    · exact Nat.lt_irrefl _ (HRD4.out.row.lt _ hi).2
    · cases e
  have HTW := Lib.hid (show Two w w5 ⟨B, shps of, zp, zp, rm room, zs, sa, sc⟩ σ ⟨col σ, [], false⟩ σ (.slice none 0 0) L A1 c1 ⟨B2, shps of, w4.heap.size, w4.heap.size, 1000, zs, sa, sc⟩ τ ⟨col τ, [], false⟩ τ (.slice none 0 0) from
    ⟨HRD5.out, HTR5.out, hdj, HLT.out, hzp2, (by show B.z ≤ B2.z; omega), hzs01, hrf⟩)
  obtain ⟨zq, hzq⟩ : ∃ zq, w4.heap.size = zq := ⟨_, rfl⟩
  rw [hzq] at HTW
  rw [hzq]
  obtain ⟨hrm1, hrm2⟩ := rm_bd room
  obtain ⟨R, hR⟩ : ∃ R, rm room = R := ⟨_, rfl⟩
  rw [hR] at HTW hrm1 hrm2
  obtain ⟨ls, hls⟩ : ∃ ls, shps of = ls := ⟨_, rfl⟩
  rw [hls] at HTW HOB HOX ⊢
  clear hdj hrf hp5 hb5 hph HRD5 HTR5 HRD4 HX4 hzq hR hls HLT HRB HLT3 hw34
  have HI := Lib.hid (Inv.start (ls := ls) HOB.out.wh)
  have HJ := Lib.hid (Inv.start (ls := ls) HOX.out.wh)
  by_cases hL0 : L.length = 0
  · have hL1 : ((L.length : Int) == 0) = true := by simp [hL0]
    have HE := Lib.hid HTW.out.one.tr.hw.bel
    rw [hL0] at hL1 ⊢
    clear hL0
    dsimp only
    go_wp2_with fail
    go_ret
    exact ⟨rfl, HE.out⟩
  · have hL1 : ((L.length : Int) == 0) = false := by rw [beq_eq_false_iff_ne]; omega
    have hLp : 0 < L.length := by omega
    dsimp only
    go_wp2_with fail
    go_loopw [19, 20] (fun iv _ wr => ∃ (q : Nat) (S : Int → Prop) (T : TS) (σ1 : HS) (v : Value) (U : TS) (τ1 : HS) (u : Value), q ≤ k ∧ iv = .int .i64 (q : Int) ∧ Two w wr ⟨B, ls, zp, zp, R, zs, sa, sc⟩ σ T σ1 v L A1 c1 ⟨B2, ls, zq, zq, 1000, zs, sa, sc⟩ τ U τ1 u ∧ Inv ls σ S noX T ∧ Inv ls τ S noX U) (fun iv _ _ => k - (intOf iv).toNat)
    case atStart => exact ⟨0, _, _, _, _, _, _, _, Nat.zero_le _, rfl, HTW.out, HI.out, HJ.out⟩
    case round =>
      clear HTW HI HJ
      obtain ⟨q, S, T, σ1, v, U, τ1, u, hq, rfl, htw, hi, hj⟩ := hrel
      have HTW := Lib.hid htw
      have HI := Lib.hid hi
      have HJ := Lib.hid hj
      clear htw hi hj
      obtain ⟨w6, rfl⟩ : ∃ w6 : World, w6 = wr := ⟨_, rfl⟩
      by_cases hqk : q < k
      · have hqk2 : (q : Int) < (k : Int) := by omega
        obtain ⟨x, hx⟩ : ∃ x, fr[q]? = some x := ⟨_, List.getElem?_eq_getElem (by have := HL3.out; omega)⟩
        obtain ⟨rb, ro, rfl, hrb, hrc⟩ := (HR3.out.below HTW.out.one.tr.hw.bel).at_ (j := q) (u := .int .i64 x) (by simp [hx])
        obtain ⟨j, hj, hjx⟩ := Bit.idx x L.length (by omega) (by omega)
        obtain ⟨a, ha⟩ : ∃ a, L[j]? = some a := ⟨_, List.getElem?_eq_getElem hj⟩
        obtain ⟨g, hg, hgl, hcell⟩ := HTW.out.one.at_ ha
        have hab := HOB.out.bd a (List.mem_of_getElem? ha)
        have hszw := HTW.out.one.tr.hw.bel.size
        have hrb2 : rb < w6.heap.size := by omega
        subst hg
        clear hx ha
        go_wp2_with (simp only [hjx])
        have hA := fresh_alloc (Below.refl w6.heap.size w6) (.cells #[.int .i64 a] 3)
        refine (shade1_any w _ _ σ S T σ1 v a _ 1 H0.out (HTW.out.call hA).one.tr HI.out HOB.out.gd (by omega) ⟨w6.heap.size, 0, rfl, by simp, fun e => Nat.lt_irrefl _ (HTW.out.one.tr.foot_lt e), (Blk.new w6 #[.int .i64 a] 3).cell 0⟩).mono ?_
        rintro e w7 ⟨n7, T7, σ7, v7, rfl, hi7, htr7, hk7, hg7, _, _, _⟩
        have HTW7 := Lib.hid ((HTW.out.call hA).first H0.out htr7 hk7 hg7)
        have HI7 := Lib.hid hi7
        clear hi7 htr7 hk7 hg7 hA HTW HI hcell hrc hjx
        dsimp only
        go_wp2_with fail
        by_cases hfin : fin T7
        · refine (Tn.step_end w _ _ σ T7 σ7 v7 HTW7.out.one.tr hfin.1 hfin.2).mono ?_
          clear hfin
          rintro e w8 ⟨rfl, rfl⟩
          dsimp only
          go_wp2_with fail
          have hA := fresh_alloc (Below.refl w7.heap.size w7) (.cells #[.int .i64 a] 3)
          refine (shade1_any w _ _ τ S U τ1 u a _ 1 H0.out (HTW7.out.call hA).two HJ.out HOX.out.gd (by omega) ⟨w7.heap.size, 0, rfl, by simp, fun e => Nat.lt_irrefl _ (HTW7.out.two.foot_lt e), (Blk.new w7 #[.int .i64 a] 3).cell 0⟩).mono ?_
          rintro e w9 ⟨n9, U9, τ9, u9, rfl, hj9, htr9, hk9, hg9, _, _, _⟩
          have HTW9 := Lib.hid ((HTW7.out.call hA).second H0.out htr9 hk9 hg9)
          have hS : (fun b => S b ∨ fo τ a = some b) = fun b => S b ∨ fo σ a = some b := by rw [Same.fo_ HSM.out]
          rw [hS] at hj9
          have HJ9 := Lib.hid hj9
          clear hj9 htr9 hk9 hg9 hA HTW7 HJ hS
          dsimp only
          go_wp2_with fail
          go_roundw
          case rel => exact ⟨q + 1, _, T7, σ7, v7, U9, τ9, u9, by omega, by go_num, HTW9.out, HI7.out, HJ9.out⟩
          case measure => simp [intOf]; omega
        · have HST := Lib.hid (HI7.out.step HOB.out.gd hrm1 HTW7.out.one.tr.len hfin)
          refine (step_any w _ _ σ _ T7 σ7 v7 H0.out HTW7.out.one.tr HI7.out hfin HOB.out.wds).mono ?_
          rintro e w8 ⟨σ8, v8, rfl, htr8, hk8, hg8⟩
          have HTW8 := Lib.hid (HTW7.out.first H0.out htr8 hk8 hg8)
          have HI8 := Lib.hid HST.out.inv
          obtain ⟨T8, hT8⟩ : ∃ T8, (stT ls σ R T7).1 = T8 := ⟨_, rfl⟩
          obtain ⟨t, ht⟩ : ∃ t, (stT ls σ R T7).2 = t := ⟨_, rfl⟩
          rw [hT8] at HI8
          rw [show (stT ls σ R T7).1 = T8 from hT8] at HTW8
          rw [show (stT ls σ R T7).2 = t from ht]
          clear htr8 hk8 hg8 hfin HST HTW7 HI7 hT8 ht
          dsimp only
          go_wp2_with fail
          have hA := fresh_alloc (Below.refl w8.heap.size w8) (.cells #[.int .i64 a] 3)
          refine (shade1_any w _ _ τ S U τ1 u a _ 1 H0.out (HTW8.out.call hA).two HJ.out HOX.out.gd (by omega) ⟨w8.heap.size, 0, rfl, by simp, fun e => Nat.lt_irrefl _ (HTW8.out.two.foot_lt e), (Blk.new w8 #[.int .i64 a] 3).cell 0⟩).mono ?_
          rintro e w9 ⟨n9, U9, τ9, u9, rfl, hj9, htr9, hk9, hg9, _, _, _⟩
          have HTW9 := Lib.hid ((HTW8.out.call hA).second H0.out htr9 hk9 hg9)
          have hS : (fun b => S b ∨ fo τ a = some b) = fun b => S b ∨ fo σ a = some b := by rw [Same.fo_ HSM.out]
          rw [hS] at hj9
          have HJ9 := Lib.hid hj9
          clear hj9 htr9 hk9 hg9 hA HTW8 HJ hS
          dsimp only
          go_wp2_with fail
          go_roundw
          case rel => exact ⟨q + 1, _, T8, σ8, v8, U9, τ9, u9, by omega, by go_num, HTW9.out, HI8.out, HJ9.out⟩
          case measure => simp [intOf]; omega
      · obtain rfl : q = k := by omega
        have hqk2 : ¬ (q : Int) < (q : Int) := by omega
        have hmu1 : mu σ T ≤ 2 * 60 + 1 := mu_le HOB.out.num (by omega)
        have hmu2 : mu τ U ≤ 2 * 60 + 1 := mu_le HOX.out.num (by omega)
        go_wp2_with fail
        refine (drain_any w _ _ σ S T σ1 v 20000 H0.out HTW.out.one.tr HI.out HOB.out.gd hrm1 HOB.out.wds (by omega) (by omega)).mono ?_
        rintro e w7 ⟨n7, T7, σ7, v7, rfl, hf7, hi7, htr7, hk7, hg7, _, _, _, _⟩
        have HTW7 := Lib.hid (HTW.out.first H0.out htr7 hk7 hg7)
        have HF7 := Lib.hid hf7
        have HI7 := Lib.hid hi7
        clear hf7 hi7 htr7 hk7 hg7 HTW HI
        dsimp only
        go_wp2_with fail
        refine (drain_any w _ _ τ S U τ1 u 20000 H0.out HTW7.out.two HJ.out HOX.out.gd (by show 1 ≤ 1000; omega) HOX.out.wds (by omega) (by omega)).mono ?_
        rintro e w8 ⟨n8, U8, τ8, u8, rfl, hf8, hj8, htr8, hk8, hg8, _, _, _, _⟩
        have HTW8 := Lib.hid (HTW7.out.second H0.out htr8 hk8 hg8)
        have HF8 := Lib.hid hf8
        have HEQ := Lib.hid (show ∀ a, T7.c a = U8.c a ∧ T7.c a ≠ 1 from fun a => by
          obtain ⟨h1, h2⟩ := HI7.out.end_ HF7.out a
          obtain ⟨h3, h4⟩ := hj8.end_ hf8 a
          refine ⟨?_, h1⟩
          rcases HI7.out.c3 a with e | e | e
          · rcases hj8.c3 a with e' | e' | e'
            · rw [e, e']
            · exact absurd e' h3
            · have := h2.2 (Same.rch HSM.out.symm (h4.1 e'))
              rw [e] at this; cases this
          · exact absurd e h1
          · rw [e, h4.2 (Same.rch HSM.out (h2.1 e))])
        clear hf8 hj8 htr8 hk8 hg8 HTW7 HI7 HJ
        dsimp only
        go_wp2_with fail
        go_loopw [21] (fun iv wr => ∃ r : Nat, r ≤ L.length ∧ iv = .int .i64 (r : Int) ∧ Two w wr ⟨B, ls, zp, zp, R, zs, sa, sc⟩ σ T7 σ7 v7 L A1 c1 ⟨B2, ls, zq, zq, 1000, zs, sa, sc⟩ τ U8 τ8 u8) (fun iv _ => L.length - (intOf iv).toNat)
        case atStart => exact ⟨0, Nat.zero_le _, rfl, HTW8.out⟩
        case round =>
          clear HTW8
          obtain ⟨r, hr, rfl, htw⟩ := hrel
          have HTW := Lib.hid htw
          clear htw
          obtain ⟨w9, rfl⟩ : ∃ w9 : World, w9 = wr := ⟨_, rfl⟩
          by_cases hrl : r < L.length
          · have hrl2 : (r : Int) < (L.length : Int) := by omega
            have hr0 : (0 : Int) ≤ (r : Int) := by omega
            obtain ⟨x, ha⟩ : ∃ x, L[r]? = some x := ⟨_, List.getElem?_eq_getElem hrl⟩
            obtain ⟨g, hg, hgl, hcell⟩ := HTW.out.one.at_ ha
            have hab := HOB.out.bd x (List.mem_of_getElem? ha)
            obtain ⟨cv, hcv⟩ : ∃ cv, T7.c x = cv := ⟨_, rfl⟩
            have HC1 := Lib.hid (show ∀ y : Ext w9, Calls Tryd.prog 51 #[.pointer (some ⟨B.b, 0, none⟩), .int .i64 x] y.w fun e w' => e = .returned (.int .i64 cv) ∧ ∃ z : Ext w9, w' = z.w from fun y => by
              refine y.call ?_
              have := color_any B ls σ7 x y.w (HTW.out.one.tr.hw.hp.call y.below) (by omega)
              rw [show col σ7 x = cv from (HTW.out.one.tr.col x).trans hcv] at this
              exact this)
            have HC2 := Lib.hid (show ∀ y : Ext w9, Calls Tryd.prog 51 #[.pointer (some ⟨B2.b, 0, none⟩), .int .i64 x] y.w fun e w' => e = .returned (.int .i64 cv) ∧ ∃ z : Ext w9, w' = z.w from fun y => by
              refine y.call ?_
              have := color_any B2 ls τ8 x y.w (HTW.out.two.hw.hp.call y.below) (by omega)
              rw [show col τ8 x = cv from (HTW.out.two.col x).trans ((HEQ.out x).1.symm.trans hcv)] at this
              exact this)
            have hne : (cv != cv) = false := by rw [bne_eq_false_iff_eq]
            have hc1 : (cv == 1) = false := by rw [beq_eq_false_iff_ne, ← hcv]; exact (HEQ.out x).2
            subst hg
            clear ha hcv
            go_wp2_with fail
            refine Ext.region w9 (by kernel_rfl) (by kernel_rfl) (Below.refl _ _) ?_
            repeat (go_big_quiet_step ((first | (go_at_call 51; first | (with_reducible exact HC1.out _) | (with_reducible exact HC2.out _)))))
            refine wpQuiet_nil ?_
            rintro _ ⟨xq, rfl⟩
            have HTW9 := Lib.hid (HTW.out.call xq.below)
            clear HTW hcell HC1 HC2 hne hc1
            go_wp2_with fail
            go_roundw
            case rel => exact ⟨r + 1, by omega, by go_num, HTW9.out⟩
            case measure => simp [intOf]; omega
          · obtain rfl : r = L.length := by omega
            have hrl2 : ¬ (L.length : Int) < (L.length : Int) := by omega
            go_wp2_with fail
            refine (done_any w _ _ σ T7 σ7 v7 HTW.out.one.tr).mono ?_
            rw [HF7.out.1, HF7.out.2]
            rintro e w10 ⟨rfl, rfl⟩
            dsimp only
            go_wp2_with fail
            refine (done_any w _ _ τ U8 τ8 u8 HTW.out.two).mono ?_
            rw [HF8.out.1, HF8.out.2]
            rintro e w10 ⟨rfl, rfl⟩
            dsimp only
            go_wp2_with fail
            go_ret
            exact ⟨rfl, HTW.out.one.tr.hw.bel⟩
theorem walk (A : Option Addr) (n c : Nat) (of : List Int) (N : Int) (A2 : Option Addr) (m c2 : Nat) (lk : List (Int × Int × Int)) (A3 : Option Addr) (k c3 : Nat) (fr : List Int) (room : Int) (w : World) (hT : Pg.Tab w) (hl : of.length = n) (_wl : ∀ x ∈ of, (Lit.int .i64 x).wf = true) (hR : Reads w w.heap.size 1 A n c (of.map (.int .i64)))
    (_w1 : (Lit.int .i64 N).wf = true) (hl2 : lk.length = m) (wl2 : ∀ x ∈ lk, (Lit.int .i64 x.1).wf = true ∧ (Lit.int .i64 x.2.1).wf = true ∧ (Lit.int .i64 x.2.2).wf = true) (hR2 : Reads w w.heap.size 3 A2 m c2 (tripCells lk)) (hl3 : fr.length = k) (_wl3 : ∀ x ∈ fr, (Lit.int .i64 x).wf = true) (hR3 : Reads w w.heap.size 1 A3 k c3 (fr.map (.int .i64))) (_w4 : (Lit.int .i64 room).wf = true) :
    Calls Tryd.prog 15 #[.slice A n c, .int .i64 N, .slice A2 m c2, .slice A3 k c3, .int .i64 room] w fun e w' => e = .returned (.bool true) ∧ Below w.heap.size w w' := by
  have hmm : m ≤ 9223372036854775807 := by have := hR2.1; have := hR2.2.1; unfold maxLen at this; omega
  have hkk : k ≤ 9223372036854775807 := by have := hR3.1; have := hR3.2.1; unfold maxLen at this; omega
  by_cases h : n < 1 ∨ 8 < n ∨ N < 1 ∨ 60 < N ∨ 150 < m ∨ 20 < k
  · exact early A n c N A2 m c2 A3 k c3 room w hT hmm hkk h
  · obtain ⟨M, rfl⟩ : ∃ M : Nat, N = (M : Int) := ⟨N.toNat, by omega⟩
    exact core A n c of M A2 m c2 lk A3 k c3 fr room w hT hl hR hl2 (fun q hq => Bd.wf_max (wl2 q hq).2.2) hR2 hl3 hR3 (by omega) (by omega) (by omega) (by omega) (by omega) (by omega)
end Go.Proofs.YtoajbjeiplolnaaDoorR.TintLate
