/- The walk of besomlaw6.ArenaInside: it returns true, and writes nothing that was there. -/
import Derived.Test.YtjlbmelpoaffpaaDoorArI
import Derived.Deep.CutBlock
import Derived.Deep.CutRange
namespace Go.Proofs.YtjlbmelpoaffpaaDoor.ArenaInside
open Go.RowKit Pg Ar
set_option linter.unusedSimpArgs false
set_option linter.unusedVariables false

set_option maxRecDepth 100000 in
theorem early (c n : Int) (w : World) (hT : Tab w) (h : Cls.csz c = 0 ∨ n < 1 ∨ 40 < n) :
    Calls Tryd.prog 7 #[.int .i64 c, .int .i64 n] w fun e w' => e = .returned (.bool true) ∧ Below w.heap.size w w' := by
  have HT := Lib.hid hT
  clear hT
  by_cases hc : Cls.csz c = 0
  · have HC := Lib.hid hc
    clear h hc
    go_enter Tryd.func7, Tryd.ntmps7
    go_wp2_with fail
    refine (Cls.rsize_any _ _).mono ?_
    rw [HC.out]
    rintro e w1 ⟨rfl, hb1⟩
    dsimp only
    go_wp2_with fail
    refine (alive _ (HT.out.call hb1)).mono ?_
    rintro e w2 ⟨rfl, hb2⟩
    dsimp only
    go_wp2_with fail
    go_ret
    exact ⟨rfl, fresh_call hb1 hb2⟩
  have hzc : (Cls.csz c == 0) = false := by simpa using hc
  by_cases h1 : n < 1
  · clear h hc
    go_enter Tryd.func7, Tryd.ntmps7
    go_wp2_with fail
    refine (Cls.rsize_any _ _).mono ?_
    rintro e w1 ⟨rfl, hb1⟩
    dsimp only
    go_wp2_with fail
    refine (alive _ (HT.out.call hb1)).mono ?_
    rintro e w2 ⟨rfl, hb2⟩
    dsimp only
    go_wp2_with fail
    go_ret
    exact ⟨rfl, fresh_call hb1 hb2⟩
  · have h2 : 40 < n := by rcases h with h | h | h <;> first | exact h | exact absurd h (by assumption)
    clear h hc
    go_enter Tryd.func7, Tryd.ntmps7
    go_wp2_with fail
    refine (Cls.rsize_any _ _).mono ?_
    rintro e w1 ⟨rfl, hb1⟩
    dsimp only
    go_wp2_with fail
    refine (alive _ (HT.out.call hb1)).mono ?_
    rintro e w2 ⟨rfl, hb2⟩
    dsimp only
    go_wp2_with fail
    go_ret
    exact ⟨rfl, fresh_call hb1 hb2⟩
set_option maxRecDepth 100000 in
set_option maxHeartbeats 4000000 in
theorem core (c : Int) (n m s : Nat) (w : World) (hT : Tab w) (hc : Cls.csl c = (m : Int)) (hs : Cls.csz c = (s : Int)) (hm0 : 0 < m) (hm2 : m ≤ 32) (hs0 : 0 < s) (hd : 32 / s = m) (hms : m * s ≤ 32) (hn1 : 1 ≤ n) (hn2 : n ≤ 40) :
    Calls Tryd.prog 7 #[.int .i64 c, .int .i64 n] w fun e w' => e = .returned (.bool true) ∧ Below w.heap.size w w' := by
  have HC := Lib.hid hc
  have HS := Lib.hid hs
  have HT := Lib.hid hT
  have hw0 := hT.1
  have hs1 : ((s : Int) == 0) = false := by simp; omega
  have hs2 : (0 : Int) ≤ (s : Int) := by omega
  have hs3 : (1 : Int) ≤ (s : Int) := by omega
  have HD := Lib.hid (div_fact hd)
  have n1 : (1 : Int) ≤ (n : Int) := by omega
  have n2 : (n : Int) ≤ 40 := by omega
  clear hc hs hT hd
  go_enter Tryd.func7, Tryd.ntmps7
  go_wp2_with fail
  refine (Cls.rsize_any _ _).mono ?_
  rw [HS.out]
  rintro e w1 ⟨rfl, hb1⟩
  have HB1 := Lib.hid hb1
  clear hb1
  dsimp only
  go_wp2_with fail
  refine (alive _ (HT.out.call HB1.out)).mono ?_
  rintro e w2 ⟨rfl, hb2⟩
  have HB2 := Lib.hid (fresh_call HB1.out hb2)
  clear hb2 HB1
  dsimp only
  go_wp2_with fail
  refine (new_any 3 _).mono ?_
  rintro e w3 hmade
  obtain ⟨b, gp, gw, rfl, ha⟩ := AW.made (HT.out.call HB2.out) hmade
  rw [show (min (max (3 : Int) 0) 64).toNat = 3 by decide] at ha
  have H3 := Lib.hid (show AW w w3 b gp gw (List.replicate 3 none) (List.replicate (32 * 3) 0) from ⟨ha.ar, fun i hi => Nat.le_trans HB2.out.size (ha.new i hi), below_call HB2.out HB2.out.size ha.bel, ha.tab⟩)
  clear ha hmade HB2
  dsimp only
  go_wp2_with fail
  refine (grow_any _ _ _ _ _ c m _ H3.out.ar HC.out hm0).mono ?_
  rintro e w4 hg
  obtain ⟨rfl, bp, hbp, ha, hk⟩ := grew_is hg (k := 0) rfl (fun i hi => by omega)
  have H4' := Lib.hid (H3.out.step hw0 ha hk (fun i e => e ▸ H3.out.new gp (.inr (.inl rfl))) (H3.out.foot_set (fun q e => by injection e with e; subst e; exact Nat.le_trans H3.out.bel.size hbp)))
  clear ha hk hg
  have H4 := Lib.hid (show AW w w4 b gp gw (one bp c m (min 0 m)) (List.replicate (32 * 3) 0) from by rw [Nat.zero_min]; exact H4'.out)
  have HF := Lib.hid (show ∀ k i, Foot b gp gw (one bp c m k) i → i < w4.heap.size from fun k i hi => H4.out.ar.lt (foot_one hi))
  have hbp0 : w.heap.size ≤ bp := H4.out.new bp (.inr (.inr (.inr ⟨0, _, rfl, rfl⟩)))
  have hz0 := H4.out.bel.size
  clear H4' H3 hbp
  have HI0 := Lib.hid (info_parts infoI)
  dsimp only
  go_wp2_with fail
  obtain ⟨z, hz⟩ : ∃ z, w4.heap.size = z := ⟨_, rfl⟩
  rw [hz] at HF hz0
  have hP4 := H4.out
  go_loopw [7, 8] (fun l i wr => ∃ (j : Nat) (ws : List Int) (vs : List Value) (A : Option Addr) (cc : Nat), j ≤ n ∧ i = .int .i64 (j : Int) ∧ l = .slice A (min j m) cc ∧ AW w wr b gp gw (one bp c m (min j m)) ws ∧ z ≤ wr.heap.size ∧ wr.ownsRow z 3 1 (.slice A (min j m) cc) (min j m) vs) (fun _ i _ => n - (intOf i).toNat)
  case atStart => exact ⟨0, _, [], none, 0, Nat.zero_le _, rfl, by rw [Nat.zero_min], H4.out, by omega, by rw [Nat.zero_min]; exact World.ownsRow_nil _ _ _ _⟩
  case round =>
    obtain ⟨j, ws, vs, A, cc, hj, rfl, rfl, haw, hzw, how⟩ := hrel
    have HA := Lib.hid haw
    have HO := Lib.hid how
    clear haw how hP4 H4
    by_cases hlt : j < n
    · have h3 : (j : Int) < (n : Int) := by omega
      by_cases hjm : j < m
      · have hmin : min j m = j := by omega
        rw [hmin] at HA HO
        have hmin1 : min (j + 1) m = j + 1 := by omega
        rw [hmin]
        go_wp2_with fail
        refine (take_any _ _ _ _ _ c _ HA.out.ar HA.out.tab (HA.out.foot0 hw0)).mono ?_
        rintro e w5 hg
        obtain ⟨rfl, ha, hk⟩ := took_is hg (k := 0) (s := j) (z := s) (p := ⟨bp, c, m, 2 ^ j - 1, 0⟩) rfl rfl (fun i hi => by omega) hjm (by rw [full_bit]; simp) (fun i hi => by rw [full_bit]; simpa using hi) HS.out
        have H5 := Lib.hid (HA.out.step hw0 ha hk (fun i e => by rcases e with e | e <;> subst e; exact hbp0; exact HA.out.new _ (.inr (.inr (.inl rfl)))) (HA.out.foot_set (fun q e => by injection e with e; subst e; exact hbp0)))
        have H6 := Lib.hid (show AW w w5 b gp gw (one bp c m (j + 1)) (clr ws (32 * 0 + j * s) s) from by have := H5.out; rw [one_next] at this; exact this)
        have hpz : bp < z := HF.out 0 bp (.inr (.inr (.inr ⟨0, _, rfl, rfl⟩)))
        have hgz : gw < z := HF.out 0 gw (.inr (.inr (.inl rfl)))
        have HO2 := Lib.hid (hk.own HO.out (fun k e e2 => by
          have := (HO.out.lt k e).1
          have e2 : k = bp ∨ k = gw := e2
          omega))
        have hz5 : z ≤ w5.heap.size := Nat.le_trans hzw hk.size
        clear ha hk hg H5 HA HO
        generalize ((1048576 + 32 * 0 + j * s : Nat) : Int) = xv at *
        dsimp only
        go_wp2_with (first
          | (at_builtin; go_loud (refine wpList_app _ rfl _ _ 26 rfl z 3 HI0.out.choose (.int .i64 0) 1 8 Tryd.underlying26 HI0.out.choose_spec.1 HI0.out.choose_spec.2.1 HI0.out.choose_spec.2.2.1 HI0.out.choose_spec.2.2.2 rfl (by decide) _ _ _ rfl (HO2.out.alloc _) (w5.heap.size + 1) _ 1 1 [.int .i64 _] rfl (Blk.reads (Blk.new w5 _ _) (by simp) rfl rfl (by decide)) ?g1 ?g2 ?g3 ?g4 ?_))
          | fail)
        case g1 => intro u hu; simp at hu; subst hu; rfl
        case g2 => unfold maxLen; omega
        case g3 => omega
        case g4 => simp; omega
        intro a' c' w2 ho2 hg2 hat2
        have hK : Kept (fun i => z ≤ i) w5 w2 := by
          have h1 : Kept (fun i => z ≤ i) w5 (w5.alloc (.cells #[.int .i64 xv] 3)) := (Kept.refl (fun i => z ≤ i) w5).alloc _
          refine h1.step (Kept.of_grown hg2) (fun i hi e => ?_)
          exact (HO2.out.lt i e.symm).1
        have H7 := Lib.hid (H6.out.told hK (fun i hi => HF.out (j + 1) i hi) hz0 hw0)
        have hz7 : z ≤ w2.heap.size := Nat.le_trans hz5 hK.size
        have HO7 := Lib.hid ho2
        clear ho2 hg2 hat2 hK H6 HO2
        go_wp2_with fail
        go_roundw
        case rel => exact ⟨j + 1, _, _, a', c', by omega, by go_num, by rw [hmin1], by rw [hmin1]; exact H7.out, hz7, by rw [hmin1]; exact HO7.out⟩
        case measure => simp [intOf]; omega
      · have hmin : min j m = m := by omega
        have hmin1 : min (j + 1) m = m := by omega
        rw [hmin] at HA HO
        rw [hmin]
        go_wp2_with fail
        refine (take_any _ _ _ _ _ c _ HA.out.ar HA.out.tab (HA.out.foot0 hw0)).mono ?_
        rintro e w5 hg
        obtain ⟨rfl, rfl⟩ := took_no hg (by
          intro i hi p hp hpc s' hs'
          match i, hp with
          | 0, hp => injection hp with hp; injection hp with hp; subst hp; exact (full_bit m s').trans (by simpa using hs')
          | 1, hp => cases hp
          | 2, hp => cases hp
          | i + 3, hp => cases hp)
        dsimp only
        go_wp2_with fail
        go_roundw
        case rel => exact ⟨j + 1, _, _, A, cc, by omega, by go_num, by rw [hmin1], by rw [hmin1]; exact HA.out, hzw, by rw [hmin1]; exact HO.out⟩
        case measure => simp [intOf]; omega
    · obtain rfl : j = n := by omega
      obtain ⟨k, hk⟩ : ∃ k, min j m = k := ⟨_, rfl⟩
      have hkm : k ≤ m := by omega
      have hks : k * s ≤ 32 := Nat.le_trans (Nat.mul_le_mul_right s hkm) hms
      rw [hk] at HA HO
      rw [hk]
      obtain ⟨wo, rfl⟩ : ∃ wo : World, wo = wr := ⟨_, rfl⟩
      go_wp2_with fail
      go_loopw [11, 12] (fun q i wx => ∃ f : Nat, f ≤ 96 ∧ i = .int .i64 (f : Int) ∧ q = .int .i64 ((min f (k * s) : Nat) : Int) ∧ AW w wx b gp gw (one bp c m k) ws) (fun _ i _ => 96 - (intOf i).toNat)
      case atStart => exact ⟨0, by omega, rfl, by rw [Nat.zero_min]; rfl, HA.out⟩
      case round =>
        obtain ⟨f, hf, rfl, rfl, hax⟩ := hrel
        have HX := Lib.hid hax
        clear hax HA HO
        by_cases hfl : f < 96
        · have h4 : (f : Int) < 96 := by omega
          by_cases hin : f < k * s
          · obtain ⟨a, ha⟩ : ∃ a : Int, 1048576 + (f : Int) = a := ⟨_, rfl⟩
            obtain ⟨hi1, B, hB, hB1, hB2, hB3, hB4⟩ := one_in (bp := bp) (show a - 1048576 = (f : Int) by omega) HC.out HS.out hkm hs0 hms hin
            have hmf : min f (k * s) = f := by omega
            have hmf1 : min (f + 1) (k * s) = f + 1 := by omega
            have haf : a ≤ 9223372036854775807 := by omega
            rw [hmf]
            go_wp2_with (simp only [ha])
            refine (find_any _ _ _ _ _ a _ HX.out.ar haf).mono ?_
            rw [hi1, hB]
            rintro e w5 ⟨rfl, d, rfl⟩
            have H5 := Lib.hid (HX.out.drewN d)
            have hB5 : ¬ a < B := by omega
            have hB6 : ¬ B + (s : Int) ≤ a := by omega
            have hs32 := (Cls.csz_bd c).2
            rw [HS.out] at hs32
            have hwr : wrap64 (B + (s : Int)) = B + (s : Int) := wrap64_id (by omega)
            dsimp only
            go_wp2_with (first | simp only [ha] | simp only [hwr])
            go_roundw
            case rel => exact ⟨f + 1, by omega, by go_num, by rw [hmf1]; go_num, H5.out⟩
            case measure => simp [intOf]; omega
          · obtain ⟨a, ha⟩ : ∃ a : Int, 1048576 + (f : Int) = a := ⟨_, rfl⟩
            have hno := one_out (bp := bp) (m := m) (show a - 1048576 = (f : Int) by omega) HC.out HS.out hs0 (show k * s ≤ f by omega)
            have hfb : fbase (one bp c m k) a = 0 := by unfold fbase; rw [hno]
            have hmf : min f (k * s) = k * s := by omega
            have hmf1 : min (f + 1) (k * s) = k * s := by omega
            have haf : a ≤ 9223372036854775807 := by omega
            rw [hmf]
            go_wp2_with (simp only [ha])
            refine (find_any _ _ _ _ _ a _ HX.out.ar haf).mono ?_
            rw [hno, hfb]
            rintro e w5 ⟨rfl, d, rfl⟩
            have H5 := Lib.hid (HX.out.drewN d)
            dsimp only [Option.isSome]
            go_wp2_with fail
            go_roundw
            case rel => exact ⟨f + 1, by omega, by go_num, by rw [hmf1], H5.out⟩
            case measure => simp [intOf]; omega
        · have hmf : min f (k * s) = k * s := by omega
          have h4 : ¬ (f : Int) < 96 := by omega
          have HK := Lib.hid hk
          have HM := Lib.hid (mul_nat m s hms)
          have HJ := Lib.hid (fun h : j ≤ m => mul_nat j s (Nat.le_trans (Nat.mul_le_mul_right s h) hms))
          rw [hmf]
          clear hmf hks hms hk hkm hfl hf n1 n2 hn1 hn2
          go_wp2_with fail
          all_goals
            have hd' := HD.out
            have hk' := HK.out
            try (exfalso; omega)
          · go_ret
            exact ⟨by show Ending.returned (Value.bool (_ == _)) = _; rw [hd', HM.out, Int.natCast_mul]; simp, HX.out.bel⟩
          · go_ret
            exact ⟨by show Ending.returned (Value.bool (_ == _)) = _; rw [HJ.out (by omega), Int.natCast_mul]; simp, HX.out.bel⟩
theorem walk (c n : Int) (w : World) (hT : Tab w) (_w0 : (Lit.int .i64 c).wf = true) (_w1 : (Lit.int .i64 n).wf = true) : Calls Tryd.prog 7 #[.int .i64 c, .int .i64 n] w fun e w' => e = .returned (.bool true) ∧ Below w.heap.size w w' := by
  by_cases h : Cls.csz c = 0 ∨ n < 1 ∨ 40 < n
  · exact early c n w hT h
  · have hc : Cls.csz c ≠ 0 := fun e => h (.inl e)
    obtain ⟨m, s, h1, h2, h3, h4, h5, h6, h7⟩ := csz_csl c hc
    obtain ⟨k, rfl⟩ : ∃ k : Nat, n = k := ⟨n.toNat, by omega⟩
    exact core c k m s w hT h1 h2 h3 h4 h5 h6 h7 (by omega) (by omega)
end Go.Proofs.YtjlbmelpoaffpaaDoor.ArenaInside
