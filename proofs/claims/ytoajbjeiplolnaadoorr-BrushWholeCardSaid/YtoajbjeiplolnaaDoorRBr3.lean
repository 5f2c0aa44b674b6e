/- Package brush: the contracts of Next, Rest. -/
import Derived.Test.YtoajbjeiplolnaaDoorRBr2
import Derived.OwnWalk
namespace Go.Proofs.YtoajbjeiplolnaaDoorR.Br
open Go.RowKit Bit Wd Hp Ar
set_option linter.unusedSimpArgs false
set_option linter.unusedVariables false

def NextIs (bb U : Nat) (B : HB) (ls : List (List Int)) (σ : HS) (w : World) (e : Ending) (w' : World) : Prop :=
  (e = .returned (.tuple #[.int .i64 0, .int .i64 0, .bool false]) ∧ (∀ j, U.testBit j = false) ∧ w = w') ∨
  ∃ (j g : Nat) (σ' : HS), e = .returned (.tuple #[.int .i64 (j : Int), .int .i64 (g : Int), .bool true]) ∧ j < 64 ∧ U.testBit j = true ∧ (∀ i, i < j → U.testBit i = false) ∧ BrAt w' bb (rm U j) ∧ Sw1 σ j g σ' ∧ HpAt w' B ls σ' ∧ Kept (fun i => i = bb ∨ HFoot B σ i) w w' ∧ ∀ i, HFoot B σ' i → HFoot B σ i
theorem next_any (bb U : Nat) (B : HB) (ls : List (List Int)) (σ : HS) (w : World) (h : BrAt w bb U) (hp : HpAt w B ls σ) (hT : Pg.Tab w) (hT2 : Tz.Tab w) (hf : ¬ HFoot B σ bb) (hz : B.z ≤ bb) (ht : 0 < B.z) :
    Calls Tryd.prog 58 #[.pointer (some ⟨bb, 0, none⟩), .pointer (some ⟨B.b, 0, none⟩)] w (NextIs bb U B ls σ w) := by
  have H := Lib.hid h
  have HP := Lib.hid hp
  have HT := Lib.hid hT
  have HT2 := Lib.hid hT2
  have HF := Lib.hid hf
  clear h hp hT hT2 hf
  go_enter Tryd.func58, Tryd.ntmps58
  go_wp2_with fail
  refine (take_any bb U 0 _ H.out (by omega) HT2.out).mono ?_
  rintro e w1 ⟨r, rfl, hr, rfl⟩
  dsimp only
  rcases hr with ⟨rfl, hno⟩ | ⟨j, rfl, hfj, hj, hno⟩
  · have HNO := Lib.hid hno
    clear hno
    go_wp2_with fail
    go_ret3
    exact .inl ⟨rfl, fun i => HNO.out i (by omega), rfl⟩
  · have hj64 := bit_lt H.out.lt hj
    have hj0 : ¬ (j : Int) < 0 := by omega
    have HNO := Lib.hid hno
    have HJ := Lib.hid hj
    clear hno hj
    go_wp2_with fail
    refine (bsweep_any bb U B ls σ j _ H.out hj64 HP.out HT.out HF.out hz (by omega)).mono ?_
    rintro e w3 ⟨g, σ3, rfl, hb3, hs3, hp3, hk3, hf3⟩
    have HB3 := Lib.hid hb3
    have HS3 := Lib.hid hs3
    have HP3 := Lib.hid hp3
    have HK3 := Lib.hid hk3
    have HF3 := Lib.hid hf3
    clear hb3 hs3 hp3 hk3 hf3
    dsimp only
    go_wp2_with fail
    go_ret3
    exact .inr ⟨j, g, σ3, rfl, hj64, HJ.out, fun i hi => HNO.out i (by omega) hi, HB3.out, HS3.out, HP3.out, HK3.out, HF3.out⟩
end Go.Proofs.YtoajbjeiplolnaaDoorR.Br
