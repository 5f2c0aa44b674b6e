/- The walk of besomlaw7.HeapSerials: it returns true, and writes nothing that was there. -/
import Derived.Test.YtoajbjeiplolnaaDoorRHpA
import Derived.Deep.Cut
namespace Go.Proofs.YtoajbjeiplolnaaDoorR.HeapSerials
open Go.RowKit Pg Ar Tm Hp
set_option linter.unusedSimpArgs false
set_option linter.unusedVariables false

theorem chk_3 : Shp.chk [[1, 1, 1]] = 0 := by decide
theorem idx2 (x : Int) : ∃ j : Nat, j < 2 ∧ (wrap64 (x.tmod 2 + 2)).tmod 2 = (j : Int) := Bit.idx x 2 (by omega) (by omega)
/-- What stands after i rounds. -/
def Inv (w wr : World) (B : HB) (i q : Nat) : Prop := ∃ σ : HS, HW w wr B [[1, 1, 1]] σ ∧ σ.sr = (q : Int) ∧ σ.gv = ((3 * q : Nat) : Int) ∧ q ≤ i
/-- An object was made, or not. -/
def Step (w wr : World) (B : HB) (i q : Nat) (a f : Int) : Prop :=
  (f = 5 ∧ Inv w wr B i q) ∨ (f = 0 ∧ ∃ (σ : HS) (k s : Nat), HW w wr B [[1, 1, 1]] σ ∧ σ.sr = ((q + 1 : Nat) : Int) ∧ σ.gv = ((3 * (q + 1) : Nat) : Int) ∧ q ≤ i ∧ hat σ a = some (k, s) ∧ σ.M k s = some (0, ((q + 1 : Nat) : Int), 0) ∧ a ≤ 1050624)
theorem step_al {w wr w' : World} {B : HB} {i q : Nat} {σ : HS} {e : Ending} (h0 : 0 < w.heap.size) (h : HW w wr B [[1, 1, 1]] σ) (hs : σ.sr = (q : Int)) (hg : σ.gv = ((3 * q : Nat) : Int)) (hq : q ≤ i) (ha : Al B [[1, 1, 1]] σ 0 3 false wr e w') :
    ∃ a f, e = .returned (.tuple #[.int .i64 a, .int .i64 f]) ∧ Step w w' B i q a f := by
  rcases ha with ⟨he, _, h1, h2⟩ | ⟨k, p, s, z, he, h2, h3, h4, h5, h6, h7, h8, h9, h10⟩
  · exact ⟨_, _, he, .inl ⟨rfl, σ, h.call h2, hs, hg, hq⟩⟩
  · have hw := h.step h0 h9 h10 (foot_al h3)
    have hlt := (List.getElem?_eq_some_iff.1 h3).1
    have hset : (made σ k p s z 0 3 false).ps[k]? = some (some ⟨p.b, p.c, p.n, ins p.U s, del p.M s⟩) := List.getElem?_set_self hlt
    obtain ⟨g1, g2, g3, g4, g5, g6, g7⟩ := slot_at hw.hp.ar hset h6 (by rw [ins_bit]; simp) h5
    have hat := hat_at hw.hp hset h6 (by rw [ins_bit]; simp) h5
    have hn := hw.hp.ar.hw
    have hn2 := hw.hp.ar.hn
    refine ⟨_, _, he, .inr ⟨rfl, _, k, s, hw, ?_, ?_, hq, hat, ?_, ?_⟩⟩
    · show σ.sr + 1 = _
      omega
    · show σ.gv + ((3 : Nat) : Int) = _
      omega
    · show put σ.M k s (some (((0 : Nat) : Int), σ.sr + 1, if false = true then 2 else 0)) k s = _
      unfold put
      rw [if_pos ⟨rfl, rfl⟩, hs]
      rfl
    · omega
theorem obj_is {w w' : World} {σ : HS} {a : Int} {k s : Nat} {x : Int} {e : Ending} (h : ObjIs [[1, 1, 1]] σ a w e w') (hh : hat σ a = some (k, s)) (hm : σ.M k s = some (0, x, 0)) :
    ∃ A c, e = .returned (.tuple #[.agg #[.int .i64 a, .int .i64 0, .int .i64 x, .slice A 3 c, .bool false], .bool true]) ∧ Below w.heap.size w w' := by
  rcases h with ⟨h1, _⟩ | ⟨k', s', t, A, c, h1, h2, h3, _, h5⟩
  · rw [hh] at h1; cases h1
  · rw [hh] at h1
    have h1 := Option.some.inj h1
    injection h1 with e1 e2
    subst e1 e2
    rw [hm] at h2
    have h2 := Option.some.inj h2
    subst h2
    have hn : nfl [[1, 1, 1]] σ k s = 3 := by
      unfold nfl
      rw [hm]
      rfl
    rw [hn] at h3
    exact ⟨A, c, h3, h5⟩
theorem Inv.call {w wr w' : World} {B : HB} {i q : Nat} (h : Inv w wr B i q) (hb : Below wr.heap.size wr w') : Inv w w' B i q := by
  obtain ⟨σ, h1, h2⟩ := h
  exact ⟨σ, h1.call hb, h2⟩
set_option maxRecDepth 100000 in
set_option maxHeartbeats 2000000 in
theorem core (n : Int) (A : Option Addr) (m c : Nat) (ds : List Int) (w : World) (hT : Tab w) (hl : ds.length = m) (hR : Reads w w.heap.size 1 A m c (ds.map (.int .i64))) :
    Calls Tryd.prog 4 #[.int .i64 n, .slice A m c] w fun e w' => e = .returned (.bool true) ∧ Below w.heap.size w w' := by
  have HT := Lib.hid hT
  have H0 := Lib.hid (show 0 < w.heap.size from hT.1)
  have HL := Lib.hid hl
  have HR := Lib.hid hR
  have hmm : m ≤ 9223372036854775807 := by have := hR.1; have := hR.2.1; unfold maxLen at this; omega
  clear hT hl hR
  by_cases hbad : n < 1 ∨ 100 < n ∨ 60 < m
  · by_cases h1 : n < 1
    · clear hbad
      go_enter Tryd.func4, Tryd.ntmps4
      go_wp2_with fail
      refine (alive _ HT.out H0.out).mono ?_
      rintro e w1 ⟨rfl, hb⟩
      dsimp only
      go_wp2_with fail
      go_ret
      exact ⟨rfl, hb⟩
    · by_cases h2 : 100 < n
      · clear hbad
        go_enter Tryd.func4, Tryd.ntmps4
        go_wp2_with fail
        refine (alive _ HT.out H0.out).mono ?_
        rintro e w1 ⟨rfl, hb⟩
        dsimp only
        go_wp2_with fail
        go_ret
        exact ⟨rfl, hb⟩
      · have h3 : (60 : Int) < (m : Int) := by omega
        clear hbad
        go_enter Tryd.func4, Tryd.ntmps4
        go_wp2_with fail
        refine (alive _ HT.out H0.out).mono ?_
        rintro e w1 ⟨rfl, hb⟩
        dsimp only
        go_wp2_with fail
        go_ret
        exact ⟨rfl, hb⟩
  · obtain ⟨N, rfl⟩ : ∃ N : Nat, n = (N : Int) := ⟨n.toNat, by omega⟩
    have h1 : ¬ (N : Int) < 1 := by omega
    have h2 : ¬ (100 : Int) < (N : Int) := by omega
    have h3 : ¬ (60 : Int) < (m : Int) := by omega
    have hN : N ≤ 100 := by omega
    clear hbad
    go_enter Tryd.func4, Tryd.ntmps4
    go_wp2_with fail
    refine (alive _ HT.out H0.out).mono ?_
    rintro e w1 ⟨rfl, hb⟩
    have HB1 := Lib.hid (fresh_alloc (fresh_alloc hb (.cells #[.int .i64 1, .int .i64 1, .int .i64 1] 3)) (.cells #[.slice (some ⟨w1.heap.size, 0, none⟩) 3 3] 64))
    have hrs := rs_lit w1 [1, 1, 1] #[.int .i64 1, .int .i64 1, .int .i64 1] rfl (by decide) (by decide)
    have HRS := Lib.hid hrs
    clear hb hrs
    dsimp only
    go_wp2_with fail
    refine (Hp.new_any 2 _ 1 1 [[1, 1, 1]] _ HRS.out chk_3).mono ?_
    intro e w2 hn
    obtain ⟨B, rfl, hw1⟩ := start_at (HT.out.call HB1.out) hn
    have H1 := Lib.hid (show Inv w w2 B 0 0 from ⟨Hp.start 2, ⟨hw1.hp, Nat.le_trans HB1.out.size hw1.new, fresh_call HB1.out hw1.bel, hw1.tab⟩, rfl, rfl, Nat.le_refl _⟩)
    clear hn hw1 HRS HB1
    dsimp only
    go_wp2_with fail
    go_loopw [7, 8, 9, 10] (fun sv iv _ _ wr => ∃ (i q : Nat), i ≤ N ∧ iv = .int .i64 (i : Int) ∧ sv = .int .i64 (q : Int) ∧ Inv w wr B i q) (fun _ iv _ _ _ => N - (intOf iv).toNat)
    case atStart => exact ⟨0, 0, Nat.zero_le _, rfl, rfl, H1.out⟩
    case round =>
      clear H1
      obtain ⟨i, q, hi, rfl, rfl, σ, hw, hs, hg, hq⟩ := hrel
      have HW1 := Lib.hid hw
      have HS1 := Lib.hid hs
      have HG1 := Lib.hid hg
      by_cases hlt : i < N
      · have hlt2 : (i : Int) < (N : Int) := by omega
        clear hw hs hg
        go_wp2_with fail
        refine (alloc_any B [[1, 1, 1]] σ 0 [1, 1, 1] false _ HW1.out.hp HW1.out.tab (HW1.out.foot0 H0.out) rfl (by have := HS1.out; omega) (by have := HG1.out; omega)).mono ?_
        intro e w3 ha
        obtain ⟨a, f, rfl, hst⟩ := step_al H0.out HW1.out HS1.out HG1.out hq ha
        have HST := Lib.hid hst
        clear ha hst HW1 HS1 HG1
        dsimp only
        go_upto_region 11 with (fail)
        go_cut [57] from 52 to 57 (fun p wx => ∃ bb : Bool, p = .bool bb ∧ ((bb = true ∧ Inv w wx B i q) ∨ (bb = false ∧ Step w wx B i q a f)))
        case first =>
          rcases HST.out with ⟨rfl, σ1, hw, hs, hg, _⟩ | ⟨rfl, hst⟩
          · have HW1 := Lib.hid hw
            have HS1 := Lib.hid hs
            have HG1 := Lib.hid hg
            clear hw hs hg HST
            go_wp2_with fail
            refine (fresh_any B [[1, 1, 1]] σ1 2 10 _ HW1.out.hp (by decide) (by decide)).mono ?_
            rintro e w4 (⟨rfl, _, hat4, hb4⟩ | ⟨k, bp, rfl, hk, hF, hbp, hat4, hk4⟩)
            · have HST := Lib.hid (show Step w w4 B i q a 5 from .inl ⟨rfl, σ1, HW1.out.call hb4, HS1.out, HG1.out, hq⟩)
              clear hat4 hb4 HW1 HS1 HG1
              dsimp only
              go_wp2_with fail
              go_meet
              exact ⟨false, rfl, .inr ⟨rfl, HST.out⟩⟩
            · have HI2 := Lib.hid (show Inv w w4 B i q from ⟨_, HW1.out.step H0.out hat4 hk4 (fun i hi => hi ▸ foot_gp B _), HS1.out, HG1.out, hq⟩)
              clear hat4 hk4 hbp hk hF HW1
              dsimp only
              go_wp2_with fail
              go_meet
              exact ⟨true, rfl, .inl ⟨rfl, HI2.out⟩⟩
          · have HST2 := Lib.hid (show Step w w3 B i q a 0 from .inr ⟨rfl, hst⟩)
            clear hst HST
            go_wp2_with fail
            go_meet
            exact ⟨false, rfl, .inr ⟨rfl, HST2.out⟩⟩
        case rest =>
        obtain ⟨bb, rfl, hbb⟩ := hcut
        have HBB := Lib.hid hbb
        clear hbb HST
        obtain ⟨w3b, rfl⟩ : ∃ w3b : World, w3b = wc := ⟨_, rfl⟩
        go_upto_if 57 with (fail)
        go_cut [9, 10] from 58 to 62 (fun av fv wx => ∃ a f, av = .int .i64 a ∧ fv = .int .i64 f ∧ Step w wx B i q a f)
        case first =>
          rcases HBB.out with ⟨rfl, σ1, hw, hs, hg, _⟩ | ⟨rfl, hst⟩
          · have HW2 := Lib.hid hw
            have HS1 := Lib.hid hs
            have HG1 := Lib.hid hg
            clear hw hs hg HBB
            go_wp2_with fail
            refine (alloc_any B [[1, 1, 1]] _ 0 [1, 1, 1] false _ HW2.out.hp HW2.out.tab (HW2.out.foot0 H0.out) rfl (by have := HS1.out; omega) (by have := HG1.out; omega)).mono ?_
            intro e w5 ha
            obtain ⟨a', f', rfl, hst⟩ := step_al H0.out HW2.out HS1.out HG1.out hq ha
            have HST := Lib.hid hst
            clear ha hst HW2 HS1 HG1
            dsimp only
            go_wp2_with fail
            go_meet
            exact ⟨_, _, rfl, rfl, HST.out⟩
          · have HST2 := Lib.hid hst
            clear hst HBB
            go_wp2_with fail
            go_meet
            exact ⟨_, _, rfl, rfl, HST2.out⟩
        case rest =>
          obtain ⟨a2, f2, rfl, rfl, hst⟩ := hcut
          have HST2 := Lib.hid hst
          clear hst HBB
          obtain ⟨w4, rfl⟩ : ∃ w4 : World, w4 = wc := ⟨_, rfl⟩
          go_upto_if 64 with (fail)
          go_cut [4, 7, 11, 12] from 63 to 91 (fun _ sv _ _ wx => ∃ q' : Nat, sv = .int .i64 (q' : Int) ∧ Inv w wx B (i + 1) q')
          case first =>
            rcases HST2.out with ⟨rfl, σ1, hw, hs, hg, _⟩ | ⟨rfl, σ1, k, s, hw, hs, hg, _, hh, hm, hal⟩
            · have HI := Lib.hid (show Inv w w4 B (i + 1) q from ⟨σ1, hw, hs, hg, by omega⟩)
              clear hw hs hg HST2
              go_wp2_with fail
              go_meet
              exact ⟨q, rfl, HI.out⟩
            · have HI := Lib.hid (show Inv w w4 B (i + 1) (q + 1) from ⟨σ1, hw, hs, hg, by omega⟩)
              have HW4 := Lib.hid hw
              have HH := Lib.hid hh
              have HM := Lib.hid hm
              clear hw hs hg hh hm HST2
              go_wp2_with fail
              refine (object_any B [[1, 1, 1]] σ1 a2 _ HW4.out.hp (by omega)).mono ?_
              intro e w5 ho
              obtain ⟨Af, cf, rfl, hb5⟩ := obj_is ho HH.out HM.out
              have hb6 := hb5.trans ((Below.refl _ _).alloc hb5.size (.cells #[.int .i64 a2, .int .i64 0, .int .i64 ((q + 1 : Nat) : Int), .slice Af 3 cf, .bool false] 68))
              have HI6 := Lib.hid (HI.out.call hb6)
              have hcast : ((q + 1 : Nat) : Int) = (q : Int) + 1 := by omega
              rw [hcast] at HI6 ⊢
              clear ho hb5 hb6 HI HW4 HH HM hcast
              dsimp only
              go_wp2_with fail
              go_meet
              exact ⟨q + 1, by go_num, HI6.out⟩
          case rest =>
            obtain ⟨q2, rfl, σ2, hw, hs, hg, hq2⟩ := hcut
            have HW2 := Lib.hid hw
            have HS2 := Lib.hid hs
            have HG2 := Lib.hid hg
            clear hw hs hg HST2
            obtain ⟨w6, rfl⟩ : ∃ w6 : World, w6 = wc := ⟨_, rfl⟩
            by_cases him : i < m
            · have him2 : (i : Int) < (m : Int) := by omega
              obtain ⟨x, hx⟩ : ∃ x, ds[i]? = some x := ⟨_, List.getElem?_eq_getElem (by have := HL.out; omega)⟩
              obtain ⟨rb, ro, rfl, hrb, hrc⟩ := (HR.out.below HW2.out.bel).at_ (j := i) (u := .int .i64 x) (by simp [hx])
              clear hx
              by_cases h30 : x.tmod 3 = 0
              · have hb3 : (x.tmod 3 == 0) = true := by simpa using h30
                obtain ⟨j, hj, hjx⟩ := idx2 x
                clear h30
                go_wp2_with (simp only [hjx])
                rcases hg : Ar.get σ2.ps (j : Int) with _ | p
                · refine (sweep_none B [[1, 1, 1]] σ2 j _ HW2.out.hp HW2.out.tab hg).mono ?_
                  rintro e w7 ⟨rfl, hb7⟩
                  have HW7 := Lib.hid (HW2.out.call hb7)
                  clear hb7 hg hjx HW2
                  dsimp only
                  go_wp2_with fail
                  go_roundw
                  case rel => exact ⟨i + 1, q2, by omega, by go_num, rfl, σ2, HW7.out, HS2.out, HG2.out, hq2⟩
                  case measure => simp [intOf]; omega
                · obtain ⟨j', hj', hp⟩ := get_some hg
                  obtain rfl : j' = j := by omega
                  refine (sweep_some B [[1, 1, 1]] σ2 j' p _ HW2.out.hp HW2.out.tab hp).mono ?_
                  rintro e w7 ⟨x', rfl, hat7, hk7, _⟩
                  have HW7 := Lib.hid (HW2.out.step H0.out hat7 hk7 (foot_sw hp))
                  clear hat7 hk7 hg hp hjx HW2
                  dsimp only
                  go_wp2_with fail
                  go_roundw
                  case rel => exact ⟨i + 1, q2, by omega, by go_num, rfl, _, HW7.out, HS2.out, HG2.out, hq2⟩
                  case measure => simp [intOf]; omega
              · have hb3 : (x.tmod 3 == 0) = false := by simpa using h30
                clear h30
                go_wp2_with fail
                go_roundw
                case rel => exact ⟨i + 1, q2, by omega, by go_num, rfl, σ2, HW2.out, HS2.out, HG2.out, hq2⟩
                case measure => simp [intOf]; omega
            · have him2 : ¬ (i : Int) < (m : Int) := by omega
              go_wp2_with fail
              go_roundw
              case rel => exact ⟨i + 1, q2, by omega, by go_num, rfl, σ2, HW2.out, HS2.out, HG2.out, hq2⟩
              case measure => simp [intOf]; omega
      · obtain rfl : i = N := by omega
        have hlt2 : ¬ (i : Int) < (i : Int) := by omega
        have hx : wrap64 (3 * (q : Int)) = ((3 * q : Nat) : Int) := by rw [wrap64_id (by omega)]; omega
        clear hw hs hg
        go_wp2_with fail
        refine (given_any B [[1, 1, 1]] σ _ HW1.out.hp).mono ?_
        rw [HG1.out]
        rintro e w3 ⟨rfl, rfl⟩
        dsimp only
        go_wp2_with (simp only [hx])
        go_ret
        exact ⟨by simp, HW1.out.bel⟩
theorem walk (n : Int) (A : Option Addr) (m c : Nat) (ds : List Int) (w : World) (hT : Tab w) (_w0 : (Lit.int .i64 n).wf = true) (hl : ds.length = m) (_wl : ∀ x ∈ ds, (Lit.int .i64 x).wf = true) (hR : Reads w w.heap.size 1 A m c (ds.map (.int .i64))) :
    Calls Tryd.prog 4 #[.int .i64 n, .slice A m c] w fun e w' => e = .returned (.bool true) ∧ Below w.heap.size w w' := core n A m c ds w hT hl hR
end Go.Proofs.YtoajbjeiplolnaaDoorR.HeapSerials
