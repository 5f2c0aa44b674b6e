/- Package brush: pages swept, one behind the other; the contract of Rest. -/
import Derived.Test.YtoajbjeiplolnaaDoorRBr3
namespace Go.Proofs.YtoajbjeiplolnaaDoorR.Br
open Go.RowKit Bit Wd Hp Ar
set_option linter.unusedSimpArgs false
set_option linter.unusedVariables false

/-- The pages of p were swept. -/
structure SwP (σ : HS) (p : Nat → Bool) (g : Nat) (σ' : HS) : Prop where
  sub : Sub σ' σ
  len : σ'.ps.length = σ.ps.length
  M : ∀ i s, σ'.M i s = if p i then sw1 (σ.M i s) else σ.M i s
  num : num σ' + g = num σ
  other : ∀ i, p i = false → σ'.ps[i]? = σ.ps[i]?
theorem SwP.start (σ : HS) : SwP σ (fun _ => false) 0 σ := ⟨Sub.refl σ, rfl, fun i s => by simp, rfl, fun _ _ => rfl⟩
theorem SwP.step {σ σ' σ'' : HS} {p : Nat → Bool} {g k n : Nat} (h : SwP σ p g σ') (hk : p k = false) (hs : Sw1 σ' k n σ'') : SwP σ (fun i => p i || decide (i = k)) (g + n) σ'' := by
  refine ⟨hs.sub.trans h.sub, hs.len.trans h.len, fun i s => ?_, by have := hs.num; have := h.num; omega, fun i hi => ?_⟩
  · rw [hs.M, h.M]
    by_cases e : i = k
    · subst e
      simp [hk]
    · simp [e]
  · rw [Bool.or_eq_false_iff] at hi
    have e : i ≠ k := by simpa using hi.2
    exact (hs.other i e).trans (h.other i hi.1)
theorem SwP.eq {σ σ' : HS} {p q : Nat → Bool} {g : Nat} (h : SwP σ p g σ') (e : ∀ i, p i = q i) : SwP σ q g σ' := by
  have : p = q := funext e
  exact this ▸ h
/-- What is behind Rest. -/
def RestIs (bb U : Nat) (B : HB) (ls : List (List Int)) (σ : HS) (w : World) (e : Ending) (w' : World) : Prop :=
  ∃ (g : Nat) (σ' : HS), e = .returned (.int .i64 (g : Int)) ∧ BrAt w' bb 0 ∧ SwP σ U.testBit g σ' ∧ HpAt w' B ls σ' ∧ Kept (fun i => i = bb ∨ HFoot B σ i) w w' ∧ ∀ i, HFoot B σ' i → HFoot B σ i
theorem zero_of {U : Nat} (h : ∀ i, U.testBit i = false) : U = 0 := Nat.eq_of_testBit_eq fun i => by rw [h, Nat.zero_testBit]
theorem rest_any (bb U : Nat) (B : HB) (ls : List (List Int)) (σ : HS) (w : World) (h : BrAt w bb U) (hp : HpAt w B ls σ) (hT : Pg.Tab w) (hT2 : Tz.Tab w) (hf : ¬ HFoot B σ bb) (hz : B.z ≤ bb) (ht : 0 < B.z) (ht2 : 1 < B.z) (hn : num σ ≤ 1000000) :
    Calls Tryd.prog 59 #[.pointer (some ⟨bb, 0, none⟩), .pointer (some ⟨B.b, 0, none⟩)] w (RestIs bb U B ls σ w) := by
  have H := Lib.hid h
  have HP := Lib.hid hp
  have HT := Lib.hid hT
  have HT2 := Lib.hid hT2
  have HF := Lib.hid hf
  have HN := Lib.hid hn
  have HSZ := Lib.hid (show ∀ i, i = bb ∨ HFoot B σ i → B.z ≤ i from fun i hi => by
    rcases hi with rfl | hi
    · exact hz
    · exact hp.new i hi)
  clear h hp hT hT2 hf hn
  go_enter Tryd.func59, Tryd.ntmps59
  go_wp2_with fail
  refine (take_any bb U 0 _ H.out (by omega) HT2.out).mono ?_
  rintro e w1 ⟨r, rfl, hr, rfl⟩
  have HR := Lib.hid hr
  clear hr
  dsimp only
  go_wp2_with fail
  go_loopw [5, 6] (fun nv kv wr => ∃ (r : Int) (U' g : Nat) (σ' : HS) (p : Nat → Bool), kv = .int .i64 r ∧ nv = .int .i64 (g : Int) ∧ Tz.Nxt U'.testBit 0 r ∧ BrAt wr bb U' ∧ HpAt wr B ls σ' ∧ SwP σ p g σ' ∧ Kept (fun i => i = bb ∨ HFoot B σ i) w wr ∧ (∀ i, HFoot B σ' i → HFoot B σ i) ∧
    ∀ i, U.testBit i = (U'.testBit i || p i) ∧ (p i = true → U'.testBit i = false)) (fun _ kv _ => rem 64 kv)
  case atStart => exact ⟨r, U, 0, σ, fun _ => false, rfl, rfl, HR.out, H.out, HP.out, SwP.start σ, Kept.refl _ _, fun i hi => hi, fun i => ⟨by simp, fun h => by cases h⟩⟩
  case round =>
    clear HR
    obtain ⟨r, U', g, σ', p, rfl, rfl, hr, hb, hp, hs, hk, hft, hbits⟩ := hrel
    have HB1 := Lib.hid hb
    have HP1 := Lib.hid hp
    have HS1 := Lib.hid hs
    have HK1 := Lib.hid hk
    have HFT := Lib.hid hft
    have HBI := Lib.hid hbits
    have HT1 := Lib.hid (HT.out.kept hk (fun e => by have := HSZ.out _ e; omega))
    have HT21 := Lib.hid (HT2.out.kept hk (fun e => by have := HSZ.out _ e; omega))
    clear hb hp hs hk hft hbits
    rcases hr with ⟨rfl, hno⟩ | ⟨j, rfl, hfj, hj, hno⟩
    · have h0 := zero_of fun i => hno i (Nat.zero_le _)
      subst h0
      have HNO := Lib.hid hno
      clear hno
      go_wp2_with fail
      go_ret
      refine ⟨g, σ', rfl, HB1.out, HS1.out.eq fun i => ?_, HP1.out, HK1.out, HFT.out⟩
      rw [(HBI.out i).1, Nat.zero_testBit, Bool.false_or]
    · have hj64 := bit_lt HB1.out.lt hj
      have hj0 : ¬ (j : Int) < 0 := by omega
      have HJ := Lib.hid hj
      have HNO := Lib.hid hno
      have hgn := HS1.out.num
      have hN := HN.out
      clear hno hj
      go_wp2_with fail
      refine (bsweep_any bb U' B ls σ' j _ HB1.out hj64 HP1.out HT1.out (fun e => HF.out (HFT.out bb e)) hz (by omega)).mono ?_
      rintro e w3 ⟨n, σ3, rfl, hb3, hs3, hp3, hk3, hf3⟩
      have HB3 := Lib.hid hb3
      have HP3 := Lib.hid hp3
      have hpj : p j = false := by
        rcases hpj : p j with _ | _
        · rfl
        · have := (HBI.out j).2 hpj
          rw [HJ.out] at this; cases this
      have HS3 := Lib.hid (HS1.out.step hpj hs3)
      have hk3' : Kept (fun i => i = bb ∨ HFoot B σ i) wr w3 := hk3.wide (fun i _ e => e.imp id (HFT.out i))
      have HK3 := Lib.hid (HK1.out.trans hk3')
      have HF3 := Lib.hid (fun i hi => HFT.out i (hf3 i hi))
      have HT23 := Lib.hid (HT21.out.kept hk3' (fun e => by have := HSZ.out _ e; omega))
      have HBT := Lib.hid (rm_bit (k := j) HB1.out.lt hj64)
      have HBI3 := Lib.hid (show ∀ i, U.testBit i = ((rm U' j).testBit i || (p i || decide (i = j))) ∧ ((p i || decide (i = j)) = true → (rm U' j).testBit i = false) from fun i => by
        rw [HBT.out]
        by_cases e : i = j
        · subst e
          have := (HBI.out i).1
          rw [HJ.out] at this
          simpa using this
        · have h1 := (HBI.out i).1
          have h2 := (HBI.out i).2
          simp [e]
          exact ⟨h1, h2⟩)
      have hgn3 := HS3.out.num
      clear hb3 hp3 hk3 hk3' hf3 hs3
      dsimp only
      go_wp2_with fail
      refine (take_any bb (rm U' j) 0 _ HB3.out (by omega) HT23.out).mono ?_
      rintro e w5 ⟨r2, rfl, hr2, rfl⟩
      have HR2 := Lib.hid hr2
      clear hr2
      dsimp only
      go_wp2_with fail
      go_roundw
      case rel => exact ⟨r2, rm U' j, g + n, σ3, _, rfl, by go_num, HR2.out, HB3.out, HP3.out, HS3.out, HK3.out, HF3.out, HBI3.out⟩
      case measure =>
        rcases HR2.out with ⟨rfl, _⟩ | ⟨i, rfl, _, hi, _⟩
        · rw [rem_neg, rem_pos]; omega
        · have h1 : i ≠ j := by
            rintro rfl
            rw [HBT.out] at hi
            simp at hi
          have h2 : ¬ i < j := fun hlt => by
            rw [HBT.out, Bool.and_eq_true] at hi
            have := HNO.out i (Nat.zero_le _) hlt
            rw [this] at hi
            cases hi.1
          rw [rem_pos, rem_pos]; omega
end Go.Proofs.YtoajbjeiplolnaaDoorR.Br
