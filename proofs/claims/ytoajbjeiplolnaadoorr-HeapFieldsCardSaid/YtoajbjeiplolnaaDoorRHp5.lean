/- Package heap: the contracts of Load, Store. -/
import Derived.Test.YtoajbjeiplolnaaDoorRHp4
namespace Go.Proofs.YtoajbjeiplolnaaDoorR.Hp
open Go.RowKit Pg Ar Tm
set_option linter.unusedSimpArgs false
set_option linter.unusedVariables false

theorem slot_inside {w : World} {B : HB} {ls : List (List Int)} {σ : HS} (h : HpAt w B ls σ) {addr : Int} {k s : Nat} (e : hat σ addr = some (k, s)) :
    ∃ (p : PM) (z : Nat), σ.ps[k]? = some (some p) ∧ Cls.csz p.c = (z : Int) ∧ addr = ((1048576 + 32 * k + s * z : Nat) : Int) ∧ k < 64 ∧ 32 * k + s * z + z ≤ σ.ws.length ∧ ∀ f : Nat, f < z → slot σ.ps (addr + f) = some (k, p, s) := by
  obtain ⟨p, z, f0, g, h1, h2, h3, h4, h5, h6, h7, h8, h9, h10, h11, h12, h13, h14, h15, h16, h17, h18, h19, h20, h21⟩ := hat_some h e
  have hpg := h.ar.page _ p h3
  have hfit := fit (c := p.c) (n := p.n) (s := s) hpg.2 h6 h5
  have hk := (List.getElem?_eq_some_iff.1 h3).1
  have hw := h.ar.hw
  refine ⟨p, z, h3, h6, by omega, h10, by omega, fun f hf => ?_⟩
  have hx : addr + f - 1048576 = ((32 * k + (g + f) : Nat) : Int) := by omega
  have hd : ((32 * k + (g + f) : Nat) : Int) / 32 = (k : Int) := by omega
  have hm : ((32 * k + (g + f) : Nat) : Int) % 32 = ((g + f : Nat) : Int) := by omega
  have hq : ((g + f : Nat) : Int) / (z : Int) = (s : Int) := by
    rw [← Int.natCast_ediv, h12, Nat.mul_comm, Nat.mul_add_div (by omega), Nat.div_eq_of_lt hf, Nat.add_zero]
  have hlt : ((g + f : Nat) : Int) < Cls.csl p.c * Cls.csz p.c := by
    rw [hpg.2, h6, ← Int.natCast_mul]
    apply Int.ofNat_lt.2
    have : (s + 1) * z ≤ p.n * z := Nat.mul_le_mul_right z h5
    rw [Nat.add_mul] at this
    omega
  unfold slot
  rw [if_neg (by omega), hx, hd, h9]
  dsimp only
  rw [hm, h6, hq, at_nat, h4, if_pos ⟨by rw [← h6]; exact hlt, rfl⟩]
  simp
theorem hasF_yes {w : World} {B : HB} {ls : List (List Int)} {σ : HS} (h : HpAt w B ls σ) {addr f : Int} (e : hasF ls σ addr f = true) :
    ∃ (k s n : Nat) (p : PM), f = (n : Int) ∧ hat σ addr = some (k, s) ∧ n < nfl ls σ k s ∧ slot σ.ps (addr + n) = some (k, p, s) ∧ σ.ps[k]? = some (some p) ∧ 1048576 ≤ addr ∧ addr + n < 1048576 + 2048 ∧ (addr + n - 1048576).toNat < σ.ws.length := by
  unfold hasF at e
  rcases hh : hat σ addr with _ | ⟨k, s⟩
  · rw [hh] at e; cases e
  rw [hh] at e
  dsimp only at e
  have e := Bool.and_eq_true_iff.1 e
  have e1 := of_decide_eq_true e.1
  have e2 := of_decide_eq_true e.2
  obtain ⟨p, z, h1, h2, h3, h4, h5, h6⟩ := slot_inside h hh
  obtain ⟨-, -, t, ht⟩ := hat_bd h hh
  obtain ⟨j, l, q1, q2, q3, q4, q5⟩ := nfl_is h ht h1
  have hw := h.ar.hw
  have hn := h.ar.hn
  exact ⟨k, s, f.toNat, p, by omega, rfl, by omega, h6 _ (by omega), h1, by omega, by omega, by omega⟩
/-- What Load tells. -/
def hfw (ls : List (List Int)) (σ : HS) (addr f : Int) : Int := if hasF ls σ addr f = true then σ.ws.getD (addr + f - 1048576).toNat 0 else 0
theorem load_any (B : HB) (ls : List (List Int)) (σ : HS) (addr f : Int) (w : World) (h : HpAt w B ls σ) (ha : addr ≤ 9223372036854775807) :
    Calls Tryd.prog 46 #[.pointer (some ⟨B.b, 0, none⟩), .int .i64 addr, .int .i64 f] w fun e w' => e = .returned (.tuple #[.int .i64 (hfw ls σ addr f), .bool (hasF ls σ addr f)]) ∧ Below w.heap.size w w' := by
  have H := Lib.hid h
  have HF := Lib.hid (field_any B ls σ addr f w h ha)
  unfold hfw
  rcases hh : hasF ls σ addr f with _ | _
  · rw [if_neg (by simp)]
    rw [hh] at HF
    clear h hh
    go_enter Tryd.func46, Tryd.ntmps46
    go_wp2_with fail
    refine HF.out.mono ?_
    rintro e w1 ⟨rfl, hb⟩
    have HB1 := Lib.hid hb
    clear hb
    dsimp only
    go_wp2_with fail
    go_ret2
    exact ⟨rfl, HB1.out⟩
  · rw [if_pos rfl]
    rw [hh] at HF
    obtain ⟨k, s, n, p, rfl, h1, h2, h3, h4, h5, h6, h7⟩ := hasF_yes h hh
    have HW := Lib.hid (show Ar.fword σ.ps σ.ws (addr + n) = σ.ws.getD (addr + n - 1048576).toNat 0 by unfold fword; rw [h3])
    have HS1 := Lib.hid (show (slot σ.ps (addr + n)).isSome = true by rw [h3]; rfl)
    have hx : wrap64 (addr + n) = addr + n := wrap64_id (by omega)
    have hlim : addr + n ≤ 9223372036854775807 := by omega
    clear h hh h1 h2 h3 h4 h5 h6 h7
    go_enter Tryd.func46, Tryd.ntmps46
    go_wp2_with fail
    refine HF.out.mono ?_
    rintro e w1 ⟨rfl, hb⟩
    have H1 := Lib.hid (H.out.call hb)
    have HB1 := Lib.hid hb
    obtain ⟨e0, e1, e2, e3, e4⟩ := H1.out.five
    clear hb
    dsimp only
    go_wp2_with (simp only [hx])
    refine (Ar.load_any _ _ _ _ _ (addr + n) _ H1.out.ar hlim).mono ?_
    rw [HW.out, HS1.out]
    rintro e w2 ⟨rfl, d, rfl⟩
    dsimp only
    go_wp2_with fail
    go_ret2
    exact ⟨rfl, below_drewN HB1.out d⟩
theorem hstore_no (B : HB) (ls : List (List Int)) (σ : HS) (addr f v : Int) (w : World) (h : HpAt w B ls σ) (ha : addr ≤ 9223372036854775807) (hh : hasF ls σ addr f = false) :
    Calls Tryd.prog 45 #[.pointer (some ⟨B.b, 0, none⟩), .int .i64 addr, .int .i64 f, .int .i64 v] w fun e w' => e = .returned (.bool false) ∧ Below w.heap.size w w' := by
  have HF := Lib.hid (field_any B ls σ addr f w h ha)
  rw [hh] at HF
  clear h hh
  go_enter Tryd.func45, Tryd.ntmps45
  go_wp2_with fail
  refine HF.out.mono ?_
  rintro e w1 ⟨rfl, hb⟩
  have HB1 := Lib.hid hb
  clear hb
  dsimp only
  go_wp2_with fail
  go_ret
  exact ⟨rfl, HB1.out⟩
theorem hstore_yes (B : HB) (ls : List (List Int)) (σ : HS) (addr f v : Int) (w : World) (h : HpAt w B ls σ) (ha : addr ≤ 9223372036854775807) (hh : hasF ls σ addr f = true) :
    Calls Tryd.prog 45 #[.pointer (some ⟨B.b, 0, none⟩), .int .i64 addr, .int .i64 f, .int .i64 v] w fun e w' => e = .returned (.bool true) ∧ HpAt w' B ls { σ with ws := σ.ws.set (addr + f - 1048576).toNat v } ∧ Kept (fun i => i = B.gw) w w' := by
  have H := Lib.hid h
  have HF := Lib.hid (field_any B ls σ addr f w h ha)
  rw [hh] at HF
  obtain ⟨k, s, n, p, rfl, h1, h2, h3, h4, h5, h6, h7⟩ := hasF_yes h hh
  have HS1 := Lib.hid (show (slot σ.ps (addr + n)).isSome = true by rw [h3]; rfl)
  have hx : wrap64 (addr + n) = addr + n := wrap64_id (by omega)
  have hlim : addr + n ≤ 9223372036854775807 := by omega
  clear h hh h1 h2 h3 h4 h5 h6 h7
  go_enter Tryd.func45, Tryd.ntmps45
  go_wp2_with fail
  refine HF.out.mono ?_
  rintro e w1 ⟨rfl, hb⟩
  have H1 := Lib.hid (H.out.call hb)
  have HB1 := Lib.hid hb
  obtain ⟨e0, e1, e2, e3, e4⟩ := H1.out.five
  clear hb
  dsimp only
  go_wp2_with (simp only [hx])
  refine (Ar.store_yes _ _ _ _ _ (addr + n) v _ H1.out.ar hlim HS1.out).mono ?_
  rintro e w2 ⟨rfl, ha2, hk2⟩
  have HA := Lib.hid ha2
  have HK := Lib.hid hk2
  clear ha2 hk2
  dsimp only
  go_wp2_with fail
  go_ret
  exact ⟨rfl, H1.out.arena HA.out HK.out (fun i hi => .inl (.inr (.inr (.inl hi)))) (fun i hi => .inl hi) H.out.inv H.out.fit, (Kept.of_below HB1.out (fun i => i = B.gw)).step HK.out (fun i _ e => e)⟩
end Go.Proofs.YtoajbjeiplolnaaDoorR.Hp
