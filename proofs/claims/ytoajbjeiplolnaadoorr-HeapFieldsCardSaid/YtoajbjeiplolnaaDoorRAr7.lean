/- Package arena: the walk of Take. -/
import Derived.Test.YtoajbjeiplolnaaDoorRAr6
namespace Go.Proofs.YtoajbjeiplolnaaDoorR.Ar
open Go.RowKit Pg
set_option linter.unusedSimpArgs false
set_option linter.unusedVariables false

theorem wrapI {x : Int} (h : 0 ≤ x ∧ x ≤ 4611686018427387904) : IntKind.i64.wrap x = x := by
  have e : IntKind.i64.wrap x = wrap64 x := by
    unfold wrap64
    exact IntKind.wrap_i64 x
  exact e.trans (wrap64_id (by omega))
theorem wrapJ {f z n : Nat} (hn : n ≤ 2048) (h : f + z ≤ n) : IntKind.i64.wrap ((f : Int) + (z : Int)) = (f : Int) + (z : Int) := wrapI (by omega)
theorem fits_words {n m j s z f : Nat} (hw : m = 32 * n) (hj : j < n) (hf : 32 * j + s * z = f) (h : s * z + z ≤ 32) : f + z ≤ m := by
  generalize s * z = q at *
  omega
theorem sub_base {A : Int} {j s z f : Nat} (hA : ((1048576 + 32 * j + s * z : Nat) : Int) = A) (hf : 32 * j + s * z = f) : A - 1048576 = (f : Int) := by
  generalize s * z = q at *
  omega
theorem sub_base2 {A : Int} {j s z f n : Nat} (hA : ((1048576 + 32 * j + s * z : Nat) : Int) = A) (hf : 32 * j + s * z = f) (hm : n ≤ 2048) (hfl : f + z ≤ n) : wrap64 (A - 1048576) = (f : Int) := by
  rw [sub_base hA hf]
  exact wrap64_id (by omega)
theorem take_facts {f z n : Nat} (hm : n ≤ 2048) (hfl : f + z ≤ n) (hz0 : 0 < z) :
    wrap64 (f : Int) = (f : Int) ∧ IntKind.i64.wrap ((f : Int) + (z : Int)) = (f : Int) + (z : Int) ∧ (¬ n = f) ∧ (¬ f = n) ∧ (f : Int) + (z : Int) ≤ (n : Int) ∧ (f : Int) ≤ (f : Int) + (z : Int) ∧ f + z - f = z ∧
      (0 : Int) ≤ (f : Int) ∧ (0 : Int) ≤ (f : Int) + (z : Int) ∧ (f : Int) ≤ (n : Int) ∧ ((f : Int) + (z : Int)).toNat = f + z :=
  ⟨wrap64_id (by omega), wrapJ hm hfl, by omega, by omega, by omega, by omega, by omega, by omega, by omega, by omega, by omega⟩
theorem cast3 (j s z : Nat) : (1048576 : Int) + (j : Int) * 32 + (s : Int) * (z : Int) = ((1048576 + 32 * j + s * z : Nat) : Int) := by
  have e : ((s * z : Nat) : Int) = (s : Int) * (z : Int) := Int.natCast_mul s z
  rw [← e]
  generalize s * z = m
  omega
set_option maxRecDepth 20000 in
set_option maxHeartbeats 400000 in
theorem take_any (b gp gw : Nat) (ps : List (Option PM)) (ws : List Int) (c : Int) (w : World) (h : ArenaAt w b gp gw ps ws) (hT : Tab w) (hfoot : ¬ Foot b gp gw ps 0) :
    Calls Tryd.prog 20 #[.pointer (some ⟨b, 0, none⟩), .int .i64 c] w (Took b gp gw ps ws c w) := by
  have hn := h.hn
  have HW := Lib.hid h.hw
  obtain ⟨c0, c1, f0, f1⟩ := h.blk.two
  have H := Lib.hid h
  have HT := Lib.hid hT
  have HF0 := Lib.hid hfoot
  clear h hT hfoot
  go_enter Tryd.func20, Tryd.ntmps20
  go_wp2_with fail
  go_loopw [19] (fun i wr => ∃ j : Nat, j ≤ ps.length ∧ i = .int .i64 j ∧ Full ps c j ∧ wr = w) (fun i _ => ps.length - (intOf i).toNat)
  case atStart => exact ⟨0, Nat.zero_le _, rfl, fun i hi => by omega, rfl⟩
  case round =>
    obtain ⟨j, hj, rfl, hfull, rfl⟩ := hrel
    have HS := Lib.hid hfull
    clear hfull
    by_cases hlt : j < ps.length
    · obtain ⟨p, hp⟩ : ∃ p, ps[j]? = some p := ⟨ps[j], List.getElem?_eq_getElem hlt⟩
      have hc := (H.out.rowp.cell j).trans (pgs_get hp)
      have h3 : (j : Int) < (ps.length : Int) := by omega
      have HJ := Lib.hid hp
      clear hp
      have HNext := Lib.hid (fun (hh : ∀ q, p = some q → q.c = c → ∀ s, s < q.n → q.U.testBit s = true) => (show Full ps c (j + 1) from fun i hi q hq => by
        rcases Nat.lt_succ_iff_lt_or_eq.1 hi with hi | rfl
        · exact HS.out i hi q hq
        · exact hh q (Option.some.inj (HJ.out.symm.trans hq))))
      rcases p with _ | ⟨pb, pc, pn, pU, pM⟩
      · unfold ptr at hc
        have HN := Lib.hid (HNext.out fun q e => by cases e)
        clear HNext
        by_cases hcc : c = -1
        · subst hcc
          go_wp2_with fail
          refine (class_nil _).mono ?_
          rintro e w1 ⟨rfl, rfl⟩
          dsimp only
          go_wp2_with fail
          go_roundw
          case rel => exact ⟨j + 1, by omega, rfl, HN.out, trivial⟩
          case measure => simp [intOf]; omega
        · have hne : ((-1 : Int) != c) = true := by simp; omega
          go_wp2_with fail
          refine (class_nil _).mono ?_
          rintro e w1 ⟨rfl, rfl⟩
          dsimp only
          go_wp2_with fail
          go_roundw
          case rel => exact ⟨j + 1, by omega, rfl, HN.out, trivial⟩
          case measure => simp [intOf]; omega
      · have HA := Lib.hid (H.out.page j _ HJ.out)
        have HP := Lib.hid HA.out.1
        unfold ptr at hc
        dsimp only at hc
        by_cases hcc : pc = c
        · subst hcc
          rcases least pU pn with hfull | ⟨s, hs, hU, hall⟩
          · have HN := Lib.hid (HNext.out fun q e _ => by injection e with e; subst e; exact hfull)
            have HFU := Lib.hid hfull
            clear HNext hfull
            go_wp2_with fail
            refine (class_any _ _ _ _ _ _ HP.out).mono ?_
            rintro e w1 ⟨rfl, rfl⟩
            dsimp only
            go_wp2_with fail
            refine (take_no _ _ _ _ _ _ HP.out HT.out HFU.out).mono ?_
            rintro e w1 ⟨rfl, rfl⟩
            dsimp only
            go_wp2_with fail
            go_roundw
            case rel => exact ⟨j + 1, by omega, rfl, HN.out, trivial⟩
            case measure => simp [intOf]; omega
          · have hpn := HA.out.1.n0
            obtain ⟨z, hz⟩ : ∃ z : Nat, Cls.csz pc = (z : Int) := take_slot HA.out.2 hpn
            obtain ⟨hfit, hz0⟩ := fit HA.out.2 hz hs
            have HZ := Lib.hid hz
            have HU := Lib.hid hU
            have HL := Lib.hid hall
            have hz16 : z ≤ 16 := by have := (Cls.csz_bd pc).2; omega
            clear HNext hU hall hz
            have hs32 : pn ≤ 32 := HA.out.1.hn
            go_wp2_with fail
            refine (class_any _ _ _ _ _ _ HP.out).mono ?_
            rintro e w1 ⟨rfl, rfl⟩
            dsimp only
            go_wp2_with fail
            refine (take_yes _ _ _ _ _ s _ HP.out HT.out hs HU.out HL.out).mono ?_
            rintro e w1 ⟨rfl, hp1, hk1⟩
            have HK1 := Lib.hid hk1
            have H1 := Lib.hid (H.out.turn HJ.out hp1 hk1)
            clear hp1 hk1
            dsimp only
            go_wp2_with fail
            refine (base_any _ _ _ _ _ _ _ _ H1.out).mono ?_
            have hlen : (ps.set j (some ⟨pb, pc, pn, ins pU s, del pM s⟩)).length = ps.length := List.length_set
            obtain ⟨f, hf⟩ : ∃ f : Nat, 32 * j + s * z = f := ⟨_, rfl⟩
            obtain ⟨A, hA⟩ : ∃ A : Int, ((1048576 + 32 * j + s * z : Nat) : Int) = A := ⟨_, rfl⟩
            have HA' := Lib.hid hA
            have HB := Lib.hid (show base (ps.set j (some ⟨pb, pc, pn, ins pU s, del pM s⟩)) j s = A by
              rw [← HA'.out]
              rw [base_some (p := ⟨pb, pc, pn, ins pU s, del pM s⟩) (by rw [get_nat, List.getElem?_set_self hlt]; rfl)]
              rw [if_pos ⟨Int.natCast_nonneg _, Int.ofNat_lt.2 hs⟩]
              dsimp only
              rw [HZ.out]
              exact cast3 j s z)
            have hfl : f + z ≤ ws.length := fits_words HW.out hlt hf hfit
            have hm : ws.length ≤ 2048 := by have := HW.out; omega
            have hsub := sub_base hA hf
            have hsub2 := sub_base2 hA hf hm hfl
            clear hA
            rw [HB.out]
            rintro e w2 ⟨rfl, d, rfl⟩
            have H2 := Lib.hid (H1.out.drewN d)
            have HK2 := Lib.hid (HK1.out.drewN d)
            generalize hw3 : w1.drewN d = w3 at *
            clear hw3
            clear c0 c1 f0 f1
            obtain ⟨c0, c1, f0, f1⟩ := H2.out.blk.two
            rw [hlen] at c0
            obtain ⟨hwf, n9, n4, n5, n6, n7, n8, m1, m2, m3, hadd⟩ := take_facts hm hfl hz0
            have HFL := Lib.hid hfl
            have HZ0 := Lib.hid hz0
            have HF' := Lib.hid hf
            have HD := Lib.hid (show ∀ dd, Took b gp gw ps ws pc wr (.returned (.tuple #[.int .i64 A, .bool true])) ((w3.drewN dd).setCells gw f (List.replicate z (.int .i64 0))) from fun dd => by
              refine Or.inr ⟨j, ⟨pb, pc, pn, pU, pM⟩, s, z, by rw [HA'.out], HS.out, HJ.out, rfl, HZ.out, hs, HU.out, HL.out, ?_, ?_⟩
              · rw [HF'.out]
                exact (H2.out.drewN dd).clear (blk_setCells gw z f ws _ (H2.out.drewN dd).roww) (clr_len _ _ _) (kept_setCells gw _ f _ rfl (Kept.refl _ _))
              · exact kept_setCells gw _ f _ (.inr rfl) ((HK2.out.wide fun i _ e => .inl e).drewN dd))
            clear hf hfl hz0 hfit hs32 hpn hz16 hs hm hj hlt h3 hc hlen
            dsimp only
            go_wp2_with (first | simp only [hsub2] | simp only [hsub])
            go_region_law (first
              | (refine step_clear _ _ rfl (.tmp 53) 27 (.slice (some ⟨gw, f, none⟩) z (ws.length - f)) rfl (by simp [Act.eval, Act.put]) (run_clear (by exact H2.out.roww) HZ0.out HFL.out _) ?_)
              | (go_simp; go_at_call 72; refine (Cls.size_any _ _).mono ?_; rw [HZ.out]; rintro e w4 ⟨rfl, rfl⟩; dsimp only))
            all_goals
              go_wp2_with fail
              go_ret2
              exact HD.out _
        · have hne : (pc != c) = true := by simp; omega
          have HN := Lib.hid (HNext.out fun q e e2 => by injection e with e; subst e; exact absurd e2 hcc)
          clear HNext
          go_wp2_with fail
          refine (class_any _ _ _ _ _ _ HP.out).mono ?_
          rintro e w1 ⟨rfl, rfl⟩
          dsimp only
          go_wp2_with fail
          go_roundw
          case rel => exact ⟨j + 1, by omega, rfl, HN.out, trivial⟩
          case measure => simp [intOf]; omega
    · obtain rfl : j = ps.length := by omega
      go_wp2_with fail
      go_ret2
      exact Or.inl ⟨rfl, HS.out, rfl⟩
end Go.Proofs.YtoajbjeiplolnaaDoorR.Ar
