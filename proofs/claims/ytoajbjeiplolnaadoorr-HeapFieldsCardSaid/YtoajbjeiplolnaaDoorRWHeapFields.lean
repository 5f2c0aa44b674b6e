/- The walk of besomlaw7.HeapFields: it returns true, and writes nothing that was there. -/
import Derived.Test.YtoajbjeiplolnaaDoorRHpS
import Derived.Deep.Cut
namespace Go.Proofs.YtoajbjeiplolnaaDoorR.HeapFields
open Go.RowKit Pg Ar Tm Hp
set_option linter.unusedSimpArgs false
set_option linter.unusedVariables false

theorem two_slots {n0 : Nat} (h1 : 1 ≤ n0) (h2 : n0 ≤ 16) : ∃ m z : Nat, Cls.csl (Cls.cof n0) = (m : Int) ∧ Cls.csz (Cls.cof n0) = (z : Int) ∧ 2 ≤ m ∧ m ≤ 32 ∧ n0 ≤ z ∧ z ≤ 16 ∧ 0 < z := by
  obtain ⟨c0, c1⟩ := Cls.cof_csz (n := (n0 : Int)) (by omega)
  have hb := Cls.cof_bd (n0 : Int)
  have hz := Cls.csz_bd (Cls.cof (n0 : Int))
  have hm : 2 ≤ Cls.csl (Cls.cof (n0 : Int)) ∧ Cls.csl (Cls.cof (n0 : Int)) ≤ 32 := by
    generalize Cls.cof (n0 : Int) = c at *
    have : c = 0 ∨ c = 1 ∨ c = 2 ∨ c = 3 ∨ c = 4 ∨ c = 5 ∨ c = 6 ∨ c = 7 := by omega
    rcases this with rfl | rfl | rfl | rfl | rfl | rfl | rfl | rfl <;> decide
  exact ⟨(Cls.csl (Cls.cof (n0 : Int))).toNat, (Cls.csz (Cls.cof (n0 : Int))).toNat, by omega, by omega, by omega, by omega, by omega, by omega, by omega⟩
def Zero (ws : List Int) : Prop := ∀ i, ws.getD i 0 = 0
theorem zero_rep (n : Nat) : Zero (List.replicate n 0) := by
  intro i
  simp [List.getD, List.getElem?_replicate]
  split <;> rfl
theorem zero_clr {ws : List Int} (h : Zero ws) (o n : Nat) : Zero (clr ws o n) := by
  intro i
  have := h i
  unfold List.getD at this ⊢
  rw [clr_get]
  split
  · rfl
  · exact this
theorem hat_mid {w : World} {B : HB} {ls : List (List Int)} {σ : HS} (h : HpAt w B ls σ) {k s z : Nat} {p : PM} (hk : σ.ps[k]? = some (some p)) (hs : s < p.n) (hU : p.U.testBit s = true) (hz : Cls.csz p.c = (z : Int)) {f : Nat} (hf : f < z) (h0 : 0 < f) :
    hat σ (((1048576 + 32 * k + s * z : Nat) : Int) + f) = none := by
  obtain ⟨h1, -, -, -, h2, -, h3⟩ := slot_at h.ar hk hs hU hz
  have h4 := h3 f hf
  obtain ⟨A, hA⟩ : ∃ A : Int, ((1048576 + 32 * k + s * z : Nat) : Int) = A := ⟨_, rfl⟩
  rw [hA] at h1 h4 ⊢
  unfold hat
  rw [h4]
  dsimp only
  rw [h1, if_neg (by omega)]
theorem litX (z : Nat) : ((1048576 + 32 * 0 + 0 * z : Nat) : Int) = 1048576 := by simp
theorem litY (z : Nat) : ((1048576 + 32 * 0 + 1 * z : Nat) : Int) = 1048576 + (z : Int) := by simp
/-- What stands behind the two objects made. -/
structure Two (w wr : World) (B : HB) (ls : List (List Int)) (σ : HS) (n0 z : Nat) : Prop where
  hw : HW w wr B ls σ
  hx : hat σ 1048576 = some (0, 0)
  hy : hat σ (1048576 + (z : Int)) = some (0, 1)
  nx : nfl ls σ 0 0 = n0
  ny : nfl ls σ 0 1 = n0
  mid : 1 < z → hat σ 1048577 = none
  zero : Zero σ.ws
  len : 2 * z ≤ σ.ws.length
  nz : n0 ≤ z
  z16 : z ≤ 16
  n1 : 1 ≤ n0
theorem two_made {w wr : World} {B : HB} {ls : List (List Int)} {bp m z : Nat} {l0 : List Int} (hl : ls[0]? = some l0) (h1 : 1 ≤ l0.length) (hz : Cls.csz (Cls.cof l0.length) = (z : Int)) (hm : 2 ≤ m) (hnz : l0.length ≤ z) (hz16 : z ≤ 16)
    (h : HW w wr B ls (made (made { Hp.start 8 with ps := (Hp.start 8).ps.set 0 (some ⟨bp, Cls.cof l0.length, m, 0, 0⟩) } 0 ⟨bp, Cls.cof l0.length, m, 0, 0⟩ 0 z 0 l0.length false) 0 ⟨bp, Cls.cof l0.length, m, ins 0 0, del 0 0⟩ 1 z 0 l0.length false)) :
    Two w wr B ls (made (made { Hp.start 8 with ps := (Hp.start 8).ps.set 0 (some ⟨bp, Cls.cof l0.length, m, 0, 0⟩) } 0 ⟨bp, Cls.cof l0.length, m, 0, 0⟩ 0 z 0 l0.length false) 0 ⟨bp, Cls.cof l0.length, m, ins 0 0, del 0 0⟩ 1 z 0 l0.length false) l0.length z := by
  have hp : (made (made { Hp.start 8 with ps := (Hp.start 8).ps.set 0 (some ⟨bp, Cls.cof l0.length, m, 0, 0⟩) } 0 ⟨bp, Cls.cof l0.length, m, 0, 0⟩ 0 z 0 l0.length false) 0 ⟨bp, Cls.cof l0.length, m, ins 0 0, del 0 0⟩ 1 z 0 l0.length false).ps[0]? = some (some ⟨bp, Cls.cof l0.length, m, ins (ins 0 0) 1, del (del 0 0) 1⟩) := rfl
  have hx := hat_at h.hp hp (s := 0) (show 0 < m by omega) (show (ins (ins 0 0) 1).testBit 0 = true by decide) hz
  have hy := hat_at h.hp hp (s := 1) (show 1 < m by omega) (show (ins (ins 0 0) 1).testBit 1 = true by decide) hz
  rw [litX] at hx
  rw [litY] at hy
  refine ⟨h, hx, hy, ?_, ?_, fun h2 => ?_, zero_clr (zero_clr (zero_rep _) _ _) _ _, ?_, hnz, hz16, h1⟩
  · show (ls.getD 0 []).length = l0.length
    simp [List.getD, hl]
  · show (ls.getD 0 []).length = l0.length
    simp [List.getD, hl]
  · have := hat_mid h.hp hp (s := 0) (f := 1) (show 0 < m by omega) (show (ins (ins 0 0) 1).testBit 0 = true by decide) hz h2 (by omega)
    rw [litX] at this
    exact this
  · show 2 * z ≤ (clr (clr (List.replicate (32 * 8) 0) _ _) _ _).length
    rw [clr_len, clr_len, List.length_replicate]
    omega
theorem back (X : Int) (j : Nat) : (X + (j : Int) - X).toNat = j := by omega
theorem back2 (X : Int) (z i : Nat) : (X + (z : Int) + (i : Int) - X).toNat = z + i := by omega
/-- The state behind the one field set. -/
def setF (σ : HS) (j : Nat) (v : Int) : HS := { σ with ws := σ.ws.set j v }
theorem hasF_set (ls : List (List Int)) (σ : HS) (j : Nat) (v A f : Int) : hasF ls (setF σ j v) A f = hasF ls σ A f := rfl
theorem hfw_at {ls : List (List Int)} {σ : HS} {A f : Int} {i : Nat} (h : hasF ls σ A f = true) (e : (A + f - 1048576).toNat = i) : hfw ls σ A f = σ.ws.getD i 0 := by
  unfold hfw
  rw [if_pos h, e]
structure Set1 (w wr : World) (B : HB) (ls : List (List Int)) (σ : HS) (n0 z j : Nat) (v : Int) : Prop where
  hw : HW w wr B ls σ
  hx : ∀ f : Int, hasF ls σ 1048576 f = (decide (0 ≤ f) && decide (f < (n0 : Int)))
  hy : ∀ f : Int, hasF ls σ (1048576 + (z : Int)) f = (decide (0 ≤ f) && decide (f < (n0 : Int)))
  mid : 1 < z → ∀ f : Int, hasF ls σ 1048577 f = false
  word : ∀ i : Nat, σ.ws.getD i 0 = if i = j then v else 0
  nz : n0 ≤ z
theorem getD_set {ws : List Int} {j i : Nat} {v : Int} (hj : j < ws.length) (h : Zero ws) : (ws.set j v).getD i 0 = if i = j then v else 0 := by
  have := h i
  unfold List.getD at this ⊢
  rw [List.getElem?_set]
  by_cases e : i = j
  · subst e
    simp [hj]
  · rw [if_neg (fun e' => e e'.symm), if_neg e]
    exact this
theorem hasF_is {ls : List (List Int)} {σ : HS} {A : Int} {p q n0 : Nat} (h : hat σ A = some (p, q)) (hn : nfl ls σ p q = n0) (f : Int) : hasF ls σ A f = (decide (0 ≤ f) && decide (f < (n0 : Int))) := by
  unfold hasF
  rw [h]
  dsimp only
  rw [hn]
theorem hasF_none {ls : List (List Int)} {σ : HS} {A : Int} (h : hat σ A = none) (f : Int) : hasF ls σ A f = false := by
  unfold hasF
  rw [h]
theorem Two.hasx {w wr : World} {B : HB} {ls : List (List Int)} {σ : HS} {n0 z : Nat} (h : Two w wr B ls σ n0 z) (f : Int) : hasF ls σ 1048576 f = (decide (0 ≤ f) && decide (f < (n0 : Int))) := hasF_is h.hx h.nx f
theorem Two.hasy {w wr : World} {B : HB} {ls : List (List Int)} {σ : HS} {n0 z : Nat} (h : Two w wr B ls σ n0 z) (f : Int) : hasF ls σ (1048576 + (z : Int)) f = (decide (0 ≤ f) && decide (f < (n0 : Int))) := hasF_is h.hy h.ny f
theorem Two.hasm {w wr : World} {B : HB} {ls : List (List Int)} {σ : HS} {n0 z : Nat} (h : Two w wr B ls σ n0 z) (hz : 1 < z) (f : Int) : hasF ls σ 1048577 f = false := hasF_none (h.mid hz) f
theorem set_back {w' : World} {B : HB} {ls : List (List Int)} {σ : HS} {j : Nat} {v X : Int} (ha : HpAt w' B ls { σ with ws := σ.ws.set (X + (j : Int) - X).toNat v }) : HpAt w' B ls (setF σ j v) := by
  rw [back] at ha
  exact ha
theorem Two.set {w wr w' : World} {B : HB} {ls : List (List Int)} {σ : HS} {n0 z j : Nat} {v : Int} (h : Two w wr B ls σ n0 z) (hj : j < n0) (h0 : 0 < w.heap.size)
    (ha : HpAt w' B ls (setF σ j v)) (hk : Kept (fun i => i = B.gw) wr w') : Set1 w w' B ls (setF σ j v) n0 z j v := by
  have hl := h.len
  have hnz := h.nz
  have hjl : j < σ.ws.length := by omega
  refine ⟨h.hw.step h0 ha hk (fun i hi => hi ▸ foot_gw B _), fun f => ?_, fun f => ?_, fun h1 f => ?_, fun i => getD_set hjl h.zero, h.nz⟩
  · rw [hasF_set]; exact h.hasx f
  · rw [hasF_set]; exact h.hasy f
  · rw [hasF_set]; exact h.hasm h1 f
theorem Set1.call {w wr w' : World} {B : HB} {ls : List (List Int)} {σ : HS} {n0 z j : Nat} {v : Int} (h : Set1 w wr B ls σ n0 z j v) (hb : Below wr.heap.size wr w') : Set1 w w' B ls σ n0 z j v := { h with hw := h.hw.call hb }
theorem Set1.loadx {w wr : World} {B : HB} {ls : List (List Int)} {σ : HS} {n0 z j i : Nat} {v : Int} (h : Set1 w wr B ls σ n0 z j v) (hi : i < n0) : hasF ls σ 1048576 i = true ∧ hfw ls σ 1048576 i = if i = j then v else 0 := by
  have h1 : hasF ls σ 1048576 i = true := by rw [h.hx]; simp; omega
  exact ⟨h1, (hfw_at h1 (back 1048576 i)).trans (h.word i)⟩
theorem Set1.loady {w wr : World} {B : HB} {ls : List (List Int)} {σ : HS} {n0 z j i : Nat} {v : Int} (h : Set1 w wr B ls σ n0 z j v) (hi : i < n0) (hj : j < n0) : hasF ls σ (1048576 + (z : Int)) i = true ∧ hfw ls σ (1048576 + (z : Int)) i = 0 := by
  have h1 : hasF ls σ (1048576 + (z : Int)) i = true := by rw [h.hy]; simp; omega
  have hn := h.nz
  refine ⟨h1, (hfw_at h1 (back2 1048576 z i)).trans ((h.word _).trans ?_)⟩
  rw [if_neg (by omega)]
set_option maxRecDepth 100000 in
theorem early (A : Option Addr) (n c : Nat) (k v : Int) (w : World) (hT : Tab w) (h : n < 1 ∨ 8 < n) :
    Calls Tryd.prog 5 #[.slice A n c, .int .i64 k, .int .i64 v] w fun e w' => e = .returned (.bool true) ∧ Below w.heap.size w w' := by
  have HT := Lib.hid hT
  clear hT
  by_cases h1 : n < 1
  · have h1' : (n : Int) < 1 := by omega
    clear h h1
    go_enter Tryd.func5, Tryd.ntmps5
    go_wp2_with fail
    refine (alive _ HT.out HT.out.1).mono ?_
    rintro e w1 ⟨rfl, hb⟩
    dsimp only
    go_wp2_with fail
    go_ret
    exact ⟨rfl, hb⟩
  · have h2 : (8 : Int) < (n : Int) := by omega
    have h1' : ¬ (n : Int) < 1 := by omega
    clear h h1
    go_enter Tryd.func5, Tryd.ntmps5
    go_wp2_with fail
    refine (alive _ HT.out HT.out.1).mono ?_
    rintro e w1 ⟨rfl, hb⟩
    dsimp only
    go_wp2_with fail
    go_ret
    exact ⟨rfl, hb⟩
set_option maxRecDepth 100000 in
set_option maxHeartbeats 2000000 in
theorem core (A : Option Addr) (n c : Nat) (of : List Int) (kk v : Int) (w : World) (hT : Tab w) (hl : of.length = n) (hR : Reads w w.heap.size 1 A n c (of.map (.int .i64))) (h0 : 1 ≤ n) (h8 : n ≤ 8) :
    Calls Tryd.prog 5 #[.slice A n c, .int .i64 kk, .int .i64 v] w fun e w' => e = .returned (.bool true) ∧ Below w.heap.size w w' := by
  have HT := Lib.hid hT
  have H0 := Lib.hid hT.1
  have HL := Lib.hid hl
  have HR := Lib.hid hR
  have h1' : ¬ (n : Int) < 1 := by omega
  have h2' : ¬ (8 : Int) < (n : Int) := by omega
  clear hT hl hR
  go_enter Tryd.func5, Tryd.ntmps5
  go_wp2_with fail
  refine (alive _ HT.out H0.out).mono ?_
  rintro e w1 ⟨rfl, hb1⟩
  have HB1 := Lib.hid hb1
  clear hb1
  dsimp only
  go_wp2_with fail
  refine (shapes_any A n c of _ HL.out h8 ((HR.out.below HB1.out).more HB1.out.size)).mono ?_
  rintro e w2 ⟨sv, rfl, hsh, hb2⟩
  obtain ⟨sa, sc, rfl, hrs⟩ := ShR.rs hsh (shps_wf (by have := HL.out; omega))
  have HCK := Lib.hid (shps_chk (of := of) (by have := HL.out; omega) (by have := HL.out; omega))
  have HRS := Lib.hid hrs
  have HB2 := Lib.hid (fresh_call HB1.out hb2)
  have HKD := Lib.hid (fun l hl => (shps_kind (of := of) (by have := HL.out; omega) l hl).1)
  have HLN := Lib.hid (shps_len of)
  clear hsh hrs hb2 HB1
  generalize shps of = ls at *
  obtain ⟨l0, hl0⟩ : ∃ l0, ls[0]? = some l0 := ⟨_, List.getElem?_eq_getElem (by have := HLN.out; have := HL.out; omega)⟩
  have hlb := HKD.out l0 (List.mem_of_getElem? hl0)
  have HL0 := Lib.hid hl0
  have hln : 0 < ls.length := by have := HLN.out; have := HL.out; omega
  have hln2 : (0 : Int) < (ls.length : Int) := by omega
  clear hl0 HKD
  dsimp only
  go_wp2_with fail
  refine (Hp.new_any 8 sa _ sc ls _ HRS.out HCK.out).mono ?_
  intro e w3 hn
  obtain ⟨B, rfl, hw3⟩ := start_at (HT.out.call HB2.out) hn
  have H3 := Lib.hid (show HW w w3 B ls (Hp.start 8) from ⟨hw3.hp, Nat.le_trans HB2.out.size hw3.new, fresh_call HB2.out hw3.bel, hw3.tab⟩)
  have HRS3 := Lib.hid (HRS.out.keep hw3.bel)
  have hz3 := hw3.bel.size
  have hzb : w2.heap.size ≤ B.z := hw3.new
  clear hn hw3 HRS HB2 HCK
  obtain ⟨sb, so, A1, c1, rfl, hsb, hsc⟩ := rs_at HRS3.out HL0.out
  have hsb3 : sb < w3.heap.size := by omega
  rw [Nat.add_zero] at hsc
  dsimp only
  go_wp2_with fail
  refine (Cls.rclass_any _ _).mono ?_
  rintro e w4 ⟨rfl, hb4⟩
  have H4 := Lib.hid (H3.out.call hb4)
  have hsc4 := (hb4.cell (p := ⟨sb, so, none⟩) hsb3).trans hsc
  obtain ⟨m, z, hm, hz, hm2, hm32, hnz, hz16, hz0⟩ := two_slots hlb.1 hlb.2
  have HM := Lib.hid hm
  have HZ := Lib.hid hz
  have hsb4 : sb < w4.heap.size := by have := hb4.size; omega
  clear hb4 hsc H3 HRS3 hm hz
  dsimp only
  go_wp2_with fail
  refine (fresh_any B ls (Hp.start 8) _ m _ H4.out.hp HM.out (by omega)).mono ?_
  intro e w5 hf
  obtain ⟨bp, rfl, hbp, hat5, hk5⟩ := fr_is hf (k := 0) rfl (fun i hi => by omega)
  have hsc5 := (hk5.cell_ (p := ⟨sb, so, none⟩) hsb4 (fun e => by have := H4.out.hp.new B.gp (foot_gp B _); have e : sb = B.gp := e; omega)).trans hsc4
  have H5 := Lib.hid (H4.out.step H0.out hat5 hk5 (fun i hi => hi ▸ foot_gp B _))
  have hsb5 : sb < w5.heap.size := by have := hk5.size; omega
  have hp1 : ({ Hp.start 8 with ps := (Hp.start 8).ps.set 0 (some ⟨bp, Cls.cof l0.length, m, 0, 0⟩) } : HS).ps[0]? = some (some ⟨bp, Cls.cof l0.length, m, 0, 0⟩) := rfl
  have HP1 := Lib.hid hp1
  clear hf hbp hat5 hk5 H4 hsc4 hp1
  dsimp only
  go_wp2_with fail
  refine (alloc_any B ls _ 0 l0 false _ H5.out.hp H5.out.tab (H5.out.foot0 H0.out) HL0.out (show (0 : Int) ≤ 0 ∧ (0 : Int) ≤ 4611686018427387904 by decide) (show (0 : Int) ≤ 0 ∧ (0 : Int) ≤ 4611686018427387904 by decide)).mono ?_
  intro e w6 ha
  obtain ⟨rfl, hat6, hk6⟩ := al_is ha HP1.out rfl (fun i hi => by omega) (show 0 < m by omega) (show (0 : Nat).testBit 0 = false by decide) (fun i hi => by omega) HZ.out
  rw [litX]
  have hsc6 := (hk6.cell_ (p := ⟨sb, so, none⟩) hsb5 (fun e => by have := H5.out.hp.new sb (foot_al HP1.out sb e); omega)).trans hsc5
  have H6 := Lib.hid (H5.out.step H0.out hat6 hk6 (foot_al HP1.out))
  have hsb6 : sb < w6.heap.size := by have := hk6.size; omega
  have hp2 : (made ({ Hp.start 8 with ps := (Hp.start 8).ps.set 0 (some ⟨bp, Cls.cof l0.length, m, 0, 0⟩) } : HS) 0 ⟨bp, Cls.cof l0.length, m, 0, 0⟩ 0 z 0 l0.length false).ps[0]? = some (some ⟨bp, Cls.cof l0.length, m, ins 0 0, del 0 0⟩) := rfl
  have HP2 := Lib.hid hp2
  clear ha hat6 hk6 H5 hsc5 hp2
  dsimp only
  go_wp2_with fail
  refine (alloc_any B ls _ 0 l0 false _ H6.out.hp H6.out.tab (H6.out.foot0 H0.out) HL0.out (show (0 : Int) ≤ 0 + 1 ∧ (0 : Int) + 1 ≤ 4611686018427387904 by decide) (show (0 : Int) ≤ 0 + (l0.length : Int) ∧ (0 : Int) + (l0.length : Int) ≤ 4611686018427387904 by omega)).mono ?_
  intro e w7 ha
  obtain ⟨rfl, hat7, hk7⟩ := al_is ha HP2.out rfl (fun i hi => by omega) (show 1 < m by omega) (show (ins 0 0).testBit 1 = false by decide) (fun i hi => by
    obtain rfl : i = 0 := by omega
    exact (show (ins 0 0).testBit 0 = true by decide)) HZ.out
  rw [litY]
  have hsc7 := (hk7.cell_ (p := ⟨sb, so, none⟩) hsb6 (fun e => by have := H6.out.hp.new sb (foot_al HP2.out sb e); omega)).trans hsc6
  have H7 := Lib.hid (two_made HL0.out hlb.1 HZ.out hm2 hnz hz16 (H6.out.step H0.out hat7 hk7 (foot_al HP2.out)))
  have hsb7 : sb < w7.heap.size := by have := hk7.size; omega
  clear ha hat7 hk7 H6 hsc6 HP1 HP2
  generalize made (made ({ Hp.start 8 with ps := (Hp.start 8).ps.set 0 (some ⟨bp, Cls.cof l0.length, m, 0, 0⟩) } : HS) 0 ⟨bp, Cls.cof l0.length, m, 0, 0⟩ 0 z 0 l0.length false) 0 ⟨bp, Cls.cof l0.length, m, ins 0 0, del 0 0⟩ 1 z 0 l0.length false = σ at *
  obtain ⟨n0, hn0⟩ : ∃ n0, l0.length = n0 := ⟨_, rfl⟩
  rw [hn0] at H7 hsc7 hlb hnz
  have hn01 : 1 ≤ n0 := hlb.1
  have hn02 : n0 ≤ 16 := hlb.2
  obtain ⟨j, hj, hjx⟩ := Bit.idx kk n0 (by omega) (by omega)
  have hn0z : ((n0 : Int) == 0) = false := by simp; omega
  clear hn0 HL0 HM HZ hlb hm2 hm32
  dsimp only
  go_wp2_with (simp only [hjx])
  have hz64 : (z : Int) ≤ 16 := by omega
  refine (hstore_yes B ls σ 1048576 j v _ H7.out.hw.hp (by decide) (by rw [H7.out.hasx]; simp; omega)).mono ?_
  rintro e w8 ⟨rfl, hat8, hk8⟩
  have H8 := Lib.hid (H7.out.set hj H0.out (set_back hat8) hk8)
  clear hat8 hk8 H7 hsc7 hjx
  generalize setF σ j v = τ at *
  dsimp only
  go_wp2_with fail
  refine (hstore_no B ls τ 1048576 n0 v _ H8.out.hw.hp (by decide) (by rw [H8.out.hx]; simp)).mono ?_
  rintro e w9 ⟨rfl, hb9⟩
  have H9 := Lib.hid (H8.out.call hb9)
  clear hb9 H8
  dsimp only
  go_wp2_with fail
  refine (hstore_no B ls τ 1048576 (-1) v _ H9.out.hw.hp (by decide) (by rw [H9.out.hx]; simp)).mono ?_
  rintro e w10 ⟨rfl, hb10⟩
  have H10 := Lib.hid (H9.out.call hb10)
  clear hb10 H9
  dsimp only
  by_cases hz1 : z = 1
  · have hne : ((1048576 + (z : Int)) != 1048577) = false := by subst hz1; decide
    clear hz1
    have HN := H10
    clear H10
    go_wp2_with fail
    go_loopw [15, 16, 17, 18, 19, 20] (fun iv _ _ _ _ _ wr => ∃ i : Nat, i ≤ n0 ∧ iv = .int .i64 (i : Int) ∧ Set1 w wr B ls τ n0 z j v) (fun iv _ _ _ _ _ _ => n0 - (intOf iv).toNat)
    case atStart => exact ⟨0, Nat.zero_le _, rfl, HN.out⟩
    case round =>
      clear HN
      obtain ⟨i, hi, rfl, hs⟩ := hrel
      have HS1 := Lib.hid hs
      clear hs
      by_cases hlt : i < n0
      · have hlt2 : (i : Int) < (n0 : Int) := by omega
        have HX := Lib.hid (HS1.out.loadx hlt)
        have HY := Lib.hid (HS1.out.loady hlt hj)
        go_wp2_with fail
        refine (load_any B ls τ 1048576 i _ HS1.out.hw.hp (by decide)).mono ?_
        rintro e wa ⟨rfl, hba⟩
        rw [HX.out.1, HX.out.2]
        have HSA := Lib.hid (HS1.out.call hba)
        clear hba HS1
        by_cases hij : i = j
        · rw [if_pos hij]
          have hije : ((i : Int) == (j : Int)) = true := by simp; omega
          clear hij
          dsimp only
          go_wp2_with fail
          refine (load_any B ls τ (1048576 + (z : Int)) i _ HSA.out.hw.hp (by omega)).mono ?_
          rintro e wb ⟨rfl, hbb⟩
          rw [HY.out.1, HY.out.2]
          have HSB := Lib.hid (HSA.out.call hbb)
          clear hbb HSA
          dsimp only
          go_wp2_with fail
          refine ⟨⟨i + 1, by omega, by simp, HSB.out⟩, ?_⟩
          show n0 - (((i : Int) + 1)).toNat < n0 - ((i : Int)).toNat
          omega
        · rw [if_neg hij]
          have hije : ((i : Int) == (j : Int)) = false := by simp; omega
          clear hij
          dsimp only
          go_wp2_with fail
          refine (load_any B ls τ (1048576 + (z : Int)) i _ HSA.out.hw.hp (by omega)).mono ?_
          rintro e wb ⟨rfl, hbb⟩
          rw [HY.out.1, HY.out.2]
          have HSB := Lib.hid (HSA.out.call hbb)
          clear hbb HSA
          dsimp only
          go_wp2_with fail
          refine ⟨⟨i + 1, by omega, by simp, HSB.out⟩, ?_⟩
          show n0 - (((i : Int) + 1)).toNat < n0 - ((i : Int)).toNat
          omega
      · have hlt2 : ¬ (i : Int) < (n0 : Int) := by omega
        go_wp2_with fail
        go_ret
        exact ⟨rfl, HS1.out.hw.bel⟩
  · have hne : ((1048576 + (z : Int)) != 1048577) = true := by simp; omega
    go_wp2_with fail
    refine (hstore_no B ls τ 1048577 0 v _ H10.out.hw.hp (by decide) (H10.out.mid (by omega) _)).mono ?_
    rintro e w11 ⟨rfl, hb11⟩
    have HN := Lib.hid (H10.out.call hb11)
    clear hb11 H10 hz1
    dsimp only
    go_wp2_with fail
    go_loopw [15, 16, 17, 18, 19, 20] (fun iv _ _ _ _ _ wr => ∃ i : Nat, i ≤ n0 ∧ iv = .int .i64 (i : Int) ∧ Set1 w wr B ls τ n0 z j v) (fun iv _ _ _ _ _ _ => n0 - (intOf iv).toNat)
    case atStart => exact ⟨0, Nat.zero_le _, rfl, HN.out⟩
    case round =>
      clear HN
      obtain ⟨i, hi, rfl, hs⟩ := hrel
      have HS1 := Lib.hid hs
      clear hs
      by_cases hlt : i < n0
      · have hlt2 : (i : Int) < (n0 : Int) := by omega
        have HX := Lib.hid (HS1.out.loadx hlt)
        have HY := Lib.hid (HS1.out.loady hlt hj)
        go_wp2_with fail
        refine (load_any B ls τ 1048576 i _ HS1.out.hw.hp (by decide)).mono ?_
        rintro e wa ⟨rfl, hba⟩
        rw [HX.out.1, HX.out.2]
        have HSA := Lib.hid (HS1.out.call hba)
        clear hba HS1
        by_cases hij : i = j
        · rw [if_pos hij]
          have hije : ((i : Int) == (j : Int)) = true := by simp; omega
          clear hij
          dsimp only
          go_wp2_with fail
          refine (load_any B ls τ (1048576 + (z : Int)) i _ HSA.out.hw.hp (by omega)).mono ?_
          rintro e wb ⟨rfl, hbb⟩
          rw [HY.out.1, HY.out.2]
          have HSB := Lib.hid (HSA.out.call hbb)
          clear hbb HSA
          dsimp only
          go_wp2_with fail
          refine ⟨⟨i + 1, by omega, by simp, HSB.out⟩, ?_⟩
          show n0 - (((i : Int) + 1)).toNat < n0 - ((i : Int)).toNat
          omega
        · rw [if_neg hij]
          have hije : ((i : Int) == (j : Int)) = false := by simp; omega
          clear hij
          dsimp only
          go_wp2_with fail
          refine (load_any B ls τ (1048576 + (z : Int)) i _ HSA.out.hw.hp (by omega)).mono ?_
          rintro e wb ⟨rfl, hbb⟩
          rw [HY.out.1, HY.out.2]
          have HSB := Lib.hid (HSA.out.call hbb)
          clear hbb HSA
          dsimp only
          go_wp2_with fail
          refine ⟨⟨i + 1, by omega, by simp, HSB.out⟩, ?_⟩
          show n0 - (((i : Int) + 1)).toNat < n0 - ((i : Int)).toNat
          omega
      · have hlt2 : ¬ (i : Int) < (n0 : Int) := by omega
        go_wp2_with fail
        go_ret
        exact ⟨rfl, HS1.out.hw.bel⟩
theorem walk (A : Option Addr) (n c : Nat) (of : List Int) (k v : Int) (w : World) (hT : Tab w) (hl : of.length = n) (_wl : ∀ x ∈ of, (Lit.int .i64 x).wf = true) (hR : Reads w w.heap.size 1 A n c (of.map (.int .i64))) (_w1 : (Lit.int .i64 k).wf = true) (_w2 : (Lit.int .i64 v).wf = true) :
    Calls Tryd.prog 5 #[.slice A n c, .int .i64 k, .int .i64 v] w fun e w' => e = .returned (.bool true) ∧ Below w.heap.size w w' := by
  by_cases h : n < 1 ∨ 8 < n
  · exact early A n c k v w hT h
  · exact core A n c of k v w hT hl hR (by omega) (by omega)
end Go.Proofs.YtoajbjeiplolnaaDoorR.HeapFields
