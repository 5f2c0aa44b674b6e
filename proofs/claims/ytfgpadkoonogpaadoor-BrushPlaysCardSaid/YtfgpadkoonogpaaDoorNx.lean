/- Package brush: the contract of Need, step by step. -/
import Derived.Test.YtfgpadkoonogpaaDoorSm
namespace Go.Proofs.YtfgpadkoonogpaaDoor.Br
open Go.RowKit Pg Ar Tm Hp
set_option linter.unusedSimpArgs false
set_option linter.unusedVariables false

/-- Behind Need. -/
def NeedX (bb U : Nat) (B : HB) (ls : List (List Int)) (σ : HS) (c : Int) (w : World) (e : Ending) (w' : World) : Prop :=
  ∃ (b : Bool) (U' : Nat) (σ' : HS), e = .returned (.bool b) ∧ BrAt w' bb U' ∧ HpAt w' B ls σ' ∧ Kept (fun i => i = bb ∨ HFoot B σ i) w w' ∧ (∀ i, HFoot B σ' i → HFoot B σ i) ∧ Nd c 64 0 σ U b σ' U'
theorem needx_any (bb U : Nat) (B : HB) (ls : List (List Int)) (σ : HS) (c : Int) (w : World) (h : BrAt w bb U) (hp : HpAt w B ls σ) (hT : Pg.Tab w) (hT2 : Tz.Tab w) (hf : ¬ HFoot B σ bb) (hz : B.z ≤ bb) (ht : 0 < B.z) (ht2 : 1 < B.z) :
    Calls Tryd.prog 39 #[.pointer (some ⟨bb, 0, none⟩), .pointer (some ⟨B.b, 0, none⟩), .int .i64 c] w (NeedX bb U B ls σ c w) := by
  have H := Lib.hid h
  have HP := Lib.hid hp
  have HT := Lib.hid hT
  have HT2 := Lib.hid hT2
  have HF := Lib.hid hf
  have HSZ := Lib.hid (show ∀ i, i = bb ∨ HFoot B σ i → B.z ≤ i from fun i hi => by
    rcases hi with rfl | hi
    · exact hz
    · exact hp.new i hi)
  clear h hp hT hT2 hf
  go_enter Tryd.func39, Tryd.ntmps39
  go_wp2_with fail
  refine (take_any bb U 0 _ H.out (by omega) HT2.out).mono ?_
  rintro e w1 ⟨r, rfl, hr, rfl⟩
  have HR := Lib.hid hr
  clear hr
  dsimp only
  go_wp2_with fail
  go_loopw [7, 8, 9, 10, 11] (fun kv _ _ _ _ wr => ∃ (f : Nat) (r : Int) (U' : Nat) (σ' : HS), f ≤ 64 ∧ kv = .int .i64 r ∧ Tz.Nxt U'.testBit f r ∧ BrAt wr bb U' ∧ HpAt wr B ls σ' ∧ Kept (fun i => i = bb ∨ HFoot B σ i) w wr ∧ (∀ i, HFoot B σ' i → HFoot B σ i) ∧
    ∀ b σ2 U2, Nd c (64 - f) f σ' U' b σ2 U2 → Nd c 64 0 σ U b σ2 U2) (fun kv _ _ _ _ _ => rem 64 kv)
  case atStart => exact ⟨0, r, U, σ, by omega, rfl, HR.out, H.out, HP.out, Kept.refl _ _, fun i hi => hi, fun _ _ _ h => h⟩
  case round =>
    clear HR
    obtain ⟨f, r, U', σ', hf, rfl, hr, hb, hp, hk, hft, hnd⟩ := hrel
    have HB1 := Lib.hid hb
    have HP1 := Lib.hid hp
    have HK1 := Lib.hid hk
    have HFT := Lib.hid hft
    have HND := Lib.hid hnd
    have HT1 := Lib.hid (HT.out.kept hk (fun e => by have := HSZ.out _ e; omega))
    have HT21 := Lib.hid (HT2.out.kept hk (fun e => by have := HSZ.out _ e; omega))
    clear hb hp hk hft hnd
    rcases hr with ⟨rfl, hno⟩ | ⟨j, rfl, hfj, hj, hno⟩
    · have HNE := Lib.hid (HND.out false σ' U' (Nd.none_ _ _ hno))
      clear hno
      go_wp2_with fail
      go_ret
      exact ⟨false, U', σ', rfl, HB1.out, HP1.out, HK1.out, HFT.out, HNE.out⟩
    · have hj64 := bit_lt HB1.out.lt hj
      have hj0 : (0 : Int) ≤ (j : Int) := by omega
      obtain ⟨rb, hkc⟩ := kcl_pcl σ' j
      have HNJ := Lib.hid (show ∀ b σ2 U2, Nd c (63 - j + 1) j σ' U' b σ2 U2 → Nd c 64 0 σ U b σ2 U2 from fun b σ2 U2 h => HND.out b σ2 U2 (by
        have e1 : f + (j - f) = j := by omega
        have e2 : 63 - j + 1 + (j - f) = 64 - f := by omega
        rw [← e1] at h
        have := Nd.jump (j - f) f (63 - (f + (j - f)) + 1) (fun i h1 h2 => hno i h1 (by omega)) h
        rwa [e1, e2] at this))
      have HBJ := Lib.hid hj
      clear hno hj HND
      go_wp2_with fail
      refine (class_any' B ls σ' j _ HP1.out).mono ?_
      rw [hkc]
      rintro e w2 ⟨rfl, d, rfl⟩
      have HB2 := Lib.hid (show BrAt (wr.drewN d) bb U' from HB1.out.keep rfl)
      have HP2 := Lib.hid (HP1.out.drewN d)
      have HK2 := Lib.hid (HK1.out.drewN d)
      have HT2' := Lib.hid (show Pg.Tab (wr.drewN d) from HT1.out.drewN d)
      have HT22 := Lib.hid (show Tz.Tab (wr.drewN d) from HT21.out.drewN d)
      clear HB1 HP1 HK1 HT1 HT21 hkc
      generalize wr.drewN d = w2 at *
      dsimp only
      by_cases hc : pcl σ' j = c ∧ 0 ≤ c
      · obtain ⟨hc, hc0⟩ := hc
        have HC := Lib.hid hc
        rw [hc]
        clear hc
        have hce : (c != c) = false := by rw [bne_eq_false_iff_eq]
        have hcn : ¬ c < 0 := by omega
        go_wp2_with fail
        refine (bsweep_any bb U' B ls σ' j _ HB2.out hj64 HP2.out HT2'.out (fun e => HF.out (HFT.out bb e)) hz (by omega)).mono ?_
        rintro e w3 ⟨g, σ3, rfl, hb3, hs3, hp3, hk3, hf3⟩
        have HB3 := Lib.hid hb3
        have HP3 := Lib.hid hp3
        have hk3' : Kept (fun i => i = bb ∨ HFoot B σ i) w2 w3 := hk3.wide (fun i _ e => e.imp id (HFT.out i))
        have HK3 := Lib.hid (HK2.out.trans hk3')
        have HF3 := Lib.hid (fun i hi => HFT.out i (hf3 i hi))
        have HT3 := Lib.hid (HT2'.out.kept hk3' (fun e => by have := HSZ.out _ e; omega))
        have HT23 := Lib.hid (HT22.out.kept hk3' (fun e => by have := HSZ.out _ e; omega))
        have HS3 := Lib.hid hs3
        obtain ⟨rb3, hkc3⟩ := kcl_pcl σ3 j
        have HKC := Lib.hid hkc3
        clear hb3 hp3 hk3 hk3' hf3 hs3 HB2 HP2 HK2 HT2' HT22
        dsimp only
        go_wp2_with fail
        refine (class_any' B ls σ3 j _ HP3.out).mono ?_
        rw [hkc3]
        rintro e w4 ⟨rfl, d, rfl⟩
        have HB4 := Lib.hid (show BrAt (w3.drewN d) bb (rm U' j) from HB3.out.keep rfl)
        have HP4 := Lib.hid (HP3.out.drewN d)
        have HK4 := Lib.hid (HK3.out.drewN d)
        have HT4 := Lib.hid (show Tz.Tab (w3.drewN d) from HT23.out.drewN d)
        clear HB3 HP3 HK3 HT3 HT23 hkc3
        generalize w3.drewN d = w4 at *
        obtain ⟨c3, hc3⟩ : ∃ c3, pcl σ3 j = c3 := ⟨_, rfl⟩
        rw [hc3] at HKC ⊢
        clear hc3
        dsimp only
        by_cases hroom : c3 = c ∧ rb3 = true
        · obtain ⟨rfl, rfl⟩ := hroom
          have hcc : (c3 == c3) = true := by simp
          have HNE := Lib.hid (HNJ.out true σ3 (rm U' j) ⟨fun _ => ⟨g, σ3, HS3.out, InvX.of HP4.out, .inl ⟨HKC.out, rfl, rfl, rfl⟩⟩, fun e => absurd ⟨HBJ.out, HC.out, hc0⟩ e⟩)
          go_wp2_with fail
          go_ret
          exact ⟨true, _, σ3, rfl, HB4.out, HP4.out, HK4.out, HF3.out, HNE.out⟩
        · have HND2 := Lib.hid (show ∀ b σ2 U2, Nd c (64 - (j + 1)) (j + 1) σ3 (rm U' j) b σ2 U2 → Nd c 64 0 σ U b σ2 U2 from fun b σ2 U2 h => HNJ.out b σ2 U2 ⟨fun _ => ⟨g, σ3, HS3.out, InvX.of HP4.out, .inr ⟨fun e => hroom (by
            rw [HKC.out] at e
            injection e with e
            injection e with e
            injection e with e1 e2
            injection e2 with e2 _
            injection e1 with _ e1
            injection e2 with e2
            exact ⟨e1, e2⟩), by rw [show 63 - j = 64 - (j + 1) by omega]; exact h⟩⟩, fun e => absurd ⟨HBJ.out, HC.out, hc0⟩ e⟩)
          by_cases hcc : c3 = c
          · have hrb : rb3 = false := by
              rcases rb3 with _ | _
              · rfl
              · exact absurd ⟨hcc, rfl⟩ hroom
            subst hrb hcc
            have hcc : (c3 == c3) = true := by simp
            clear hroom
            go_wp2_with fail
            refine (take_any bb (rm U' j) (j + 1) _ HB4.out (by omega) HT4.out).mono ?_
            rintro e w5 ⟨r2, rfl, hr2, rfl⟩
            have HR2 := Lib.hid hr2
            clear hr2
            dsimp only
            go_wp2_with fail
            go_roundw
            case rel => exact ⟨j + 1, r2, (rm U' j), σ3, by omega, rfl, HR2.out, HB4.out, HP4.out, HK4.out, HF3.out, HND2.out⟩
            case measure =>
              rcases HR2.out with ⟨rfl, _⟩ | ⟨i, rfl, hi, _⟩
              · rw [rem_neg, rem_pos]; omega
              · rw [rem_pos, rem_pos]; omega
          · have hcb : (c3 == c) = false := by simpa using hcc
            clear hroom hcc
            go_wp2_with fail
            refine (take_any bb (rm U' j) (j + 1) _ HB4.out (by omega) HT4.out).mono ?_
            rintro e w5 ⟨r2, rfl, hr2, rfl⟩
            have HR2 := Lib.hid hr2
            clear hr2
            dsimp only
            go_wp2_with fail
            go_roundw
            case rel => exact ⟨j + 1, r2, (rm U' j), σ3, by omega, rfl, HR2.out, HB4.out, HP4.out, HK4.out, HF3.out, HND2.out⟩
            case measure =>
              rcases HR2.out with ⟨rfl, _⟩ | ⟨i, rfl, hi, _⟩
              · rw [rem_neg, rem_pos]; omega
              · rw [rem_pos, rem_pos]; omega
      · have HND2 := Lib.hid (show ∀ b σ2 U2, Nd c (64 - (j + 1)) (j + 1) σ' U' b σ2 U2 → Nd c 64 0 σ U b σ2 U2 from fun b σ2 U2 h => HNJ.out b σ2 U2 (Nd.skip (fun e => hc ⟨e.2.1, e.2.2⟩) (by rw [show 63 - j = 64 - (j + 1) by omega]; exact h)))
        by_cases hcc : pcl σ' j = c
        · have hc0 : c < 0 := by omega
          rw [hcc]
          have hce : (c != c) = false := by rw [bne_eq_false_iff_eq]
          clear hc hcc
          go_wp2_with fail
          refine (take_any bb U' (j + 1) _ HB2.out (by omega) HT22.out).mono ?_
          rintro e w5 ⟨r2, rfl, hr2, rfl⟩
          have HR2 := Lib.hid hr2
          clear hr2
          dsimp only
          go_wp2_with fail
          go_roundw
          case rel => exact ⟨j + 1, r2, U', σ', by omega, rfl, HR2.out, HB2.out, HP2.out, HK2.out, HFT.out, HND2.out⟩
          case measure =>
            rcases HR2.out with ⟨rfl, _⟩ | ⟨i, rfl, hi, _⟩
            · rw [rem_neg, rem_pos]; omega
            · rw [rem_pos, rem_pos]; omega
        · have hce : (pcl σ' j != c) = true := by simpa using hcc
          generalize pcl σ' j = cj at *
          clear hc hcc
          go_wp2_with fail
          refine (take_any bb U' (j + 1) _ HB2.out (by omega) HT22.out).mono ?_
          rintro e w5 ⟨r2, rfl, hr2, rfl⟩
          have HR2 := Lib.hid hr2
          clear hr2
          dsimp only
          go_wp2_with fail
          go_roundw
          case rel => exact ⟨j + 1, r2, U', σ', by omega, rfl, HR2.out, HB2.out, HP2.out, HK2.out, HFT.out, HND2.out⟩
          case measure =>
            rcases HR2.out with ⟨rfl, _⟩ | ⟨i, rfl, hi, _⟩
            · rw [rem_neg, rem_pos]; omega
            · rw [rem_pos, rem_pos]; omega
end Go.Proofs.YtfgpadkoonogpaaDoor.Br
