/- Package tint: the contracts of grey, Step, Done, Drain. -/
import Derived.Test.YtoajbjeiplolnaaDoorRTj
import Derived.Outline
namespace Go.Proofs.YtoajbjeiplolnaaDoorR.Tn
open Go.RowKit Ar Hp
set_option linter.unusedSimpArgs false
set_option linter.unusedVariables false

theorem sh1_keep (σ : HS) (room : Nat) (p : TS × Nat) (v : Int) {b : Int} (h : p.1.c b ≠ 0) : (sh1 σ room p v).1.c b = p.1.c b := by
  unfold sh1
  split
  · rfl
  · split
    · rename_i a _ hc
      show upd p.1.c a 1 b = _
      unfold upd
      rw [if_neg]
      rintro rfl
      exact h hc
    · rfl
theorem shA_keep (σ : HS) (room : Nat) {b : Int} : ∀ (vs : List Int) (p : TS × Nat), p.1.c b ≠ 0 → (shA σ room vs p).1.c b = p.1.c b
  | [], _, _ => rfl
  | v :: r, p, h => by
    have h1 := sh1_keep σ room p v h
    have h2 := shA_keep σ room r (sh1 σ room p v) (by rw [h1]; exact h)
    exact h2.trans h1
/-- The Grey objects. -/
def grs (σ : HS) (T : TS) : List Int := (allOf σ.ps σ.ps.length).filter fun a => T.c a == 1
/-- One step, as it turns the state, and what it answers. -/
def stT (ls : List (List Int)) (σ : HS) (room : Nat) (T : TS) : TS × Int :=
  match T.l.reverse with
  | [] => if T.lost then (putT room ⟨T.c, [], false⟩ (grs σ T), 0) else (T, -1)
  | a :: r => (⟨upd (shA σ room (ptrs ls σ a) (⟨T.c, r.reverse, T.lost⟩, 0)).1.c a 2, (shA σ room (ptrs ls σ a) (⟨T.c, r.reverse, T.lost⟩, 0)).1.l, (shA σ room (ptrs ls σ a) (⟨T.c, r.reverse, T.lost⟩, 0)).1.lost⟩, 1 + ((shA σ room (ptrs ls σ a) (⟨T.c, r.reverse, T.lost⟩, 0)).2 : Int))
theorem grey_none (w wr : World) (E : TB) (σ0 : HS) (T : TS) (σ : HS) (v : Value) (h : TR w wr E σ0 T σ v) (hl : T.l = []) :
    Calls Tryd.prog 109 #[.pointer (some ⟨E.B.b, 0, none⟩), .pointer (some ⟨E.bp, 0, none⟩)] wr fun e w' => e = .returned (.tuple #[.int .i64 0, .bool false]) ∧ wr = w' := by
  have HP := Lib.hid (hl ▸ h.pl)
  clear h hl
  obtain ⟨wo, rfl⟩ : ∃ wo : World, wo = wr := ⟨_, rfl⟩
  go_enter Tryd.func109, Tryd.ntmps109
  go_wp2_with fail
  go_loopw [6, 7] (fun _ _ wr => wr = wo) (fun _ _ _ => 0)
  case atStart => rfl
  case round =>
    subst hrel
    go_wp2_with fail
    refine (Pil.take_none _ _ _ _ _ _ HP.out).mono ?_
    rintro e w1 ⟨rfl, rfl⟩
    dsimp only
    go_wp2_with fail
    go_ret2
    exact ⟨rfl, rfl⟩
theorem grey_some (w wr : World) (E : TB) (σ0 : HS) (T : TS) (σ : HS) (v : Value) (h0 : 0 < w.heap.size) (h : TR w wr E σ0 T σ v) (l' : List Int) (a : Int) (hl : T.l = l' ++ [a]) (hc : T.c a = 1) :
    Calls Tryd.prog 109 #[.pointer (some ⟨E.B.b, 0, none⟩), .pointer (some ⟨E.bp, 0, none⟩)] wr (Went w E σ0 ⟨T.c, l', T.lost⟩ v (.tuple #[.int .i64 a, .bool true]) wr) := by
  have HP := Lib.hid (hl ▸ h.pl)
  have H := Lib.hid h
  have hab := h.wf a (by rw [hl]; simp)
  have HL := Lib.hid hl
  have HC := Lib.hid ((h.col a).trans hc)
  clear h hl hc
  obtain ⟨wo, rfl⟩ : ∃ wo : World, wo = wr := ⟨_, rfl⟩
  go_enter Tryd.func109, Tryd.ntmps109
  go_wp2_with fail
  go_loopw [6, 7] (fun _ _ wr => wr = wo) (fun _ _ _ => 0)
  case atStart => rfl
  case round =>
    subst hrel
    go_wp2_with fail
    refine (Pil.take_some _ _ _ l' a _ _ _ HP.out).mono ?_
    rintro e w1 ⟨rfl, ⟨v', hp1, hg1⟩, hk1⟩
    have H1 := Lib.hid (H.out.piled h0 hp1 hg1 hk1 (by have := H.out.len; rw [HL.out] at this; simp at this; omega) (fun b hb => H.out.wf b (by rw [HL.out]; simp [hb])))
    have HG1 := Lib.hid hg1
    have HK1 := Lib.hid (hk1.wide (S' := E.foot σ0 v) fun i _ e => .inr e)
    clear hp1 hg1 hk1 H HP
    dsimp only
    go_wp2_with fail
    refine (color_any E.B E.ls σ a _ H1.out.hw.hp (by omega)).mono ?_
    rw [HC.out]
    rintro e w2 ⟨rfl, hb2⟩
    have H2 := Lib.hid (H1.out.call hb2)
    have HK2 := Lib.hid (HK1.out.trans (Kept.of_below hb2 _))
    clear hb2 H1 HK1
    dsimp only
    go_wp2_with fail
    go_ret2
    exact ⟨σ, v', rfl, H2.out, HK2.out, HG1.out⟩
theorem done_any (w wr : World) (E : TB) (σ0 : HS) (T : TS) (σ : HS) (v : Value) (h : TR w wr E σ0 T σ v) :
    Calls Tryd.prog 66 #[.pointer (some ⟨E.B.b, 0, none⟩), .pointer (some ⟨E.bp, 0, none⟩)] wr fun e w' => e = .returned (.bool (decide (T.l = []) && !T.lost)) ∧ wr = w' := by
  have HP := Lib.hid h.pl
  clear h
  rcases hl : T.l with _ | ⟨x, r⟩
  · rw [hl] at HP
    clear hl
    go_enter Tryd.func66, Tryd.ntmps66
    go_wp2_with fail
    refine (Pil.len_any _ _ _ _ _ _ _ HP.out).mono ?_
    rintro e w1 ⟨rfl, rfl⟩
    dsimp only [List.length_nil]
    go_wp2_with fail
    refine (Pil.lost_any _ _ _ _ _ _ _ HP.out).mono ?_
    rintro e w1 ⟨rfl, rfl⟩
    dsimp only
    go_wp2_with fail
    go_ret
    exact ⟨rfl, rfl⟩
  · rw [hl] at HP
    clear hl
    have hne : (((x :: r).length : Int) == 0) = false := by rw [beq_eq_false_iff_ne]; simp; omega
    obtain ⟨n, hn⟩ : ∃ n, (x :: r).length = n := ⟨_, rfl⟩
    rw [hn] at hne
    go_enter Tryd.func66, Tryd.ntmps66
    go_wp2_with fail
    refine (Pil.len_any _ _ _ _ _ _ _ HP.out).mono ?_
    rw [hn]
    rintro e w1 ⟨rfl, rfl⟩
    dsimp only
    go_wp2_with fail
    go_ret
    exact ⟨by simp, rfl⟩
set_option maxHeartbeats 1000000 in
/-- Step, where an object is on the pile. -/
theorem step_grey (w wr : World) (E : TB) (σ0 : HS) (T : TS) (σ : HS) (v : Value) (h0 : 0 < w.heap.size) (h : TR w wr E σ0 T σ v) (l' : List Int) (a : Int) (hl : T.l = l' ++ [a]) (hc : T.c a = 1) (hwd : ∀ x ∈ ptrs E.ls σ0 a, x ≤ 9223372036854775807) :
    Calls Tryd.prog 65 #[.pointer (some ⟨E.B.b, 0, none⟩), .pointer (some ⟨E.bp, 0, none⟩), .slice E.sa E.ls.length E.sc] wr
      (Went w E σ0 (stT E.ls σ0 E.room T).1 v (.int .i64 (stT E.ls σ0 E.room T).2) wr) := by
  have HST := Lib.hid (show stT E.ls σ0 E.room T = (⟨upd (shA σ0 E.room (ptrs E.ls σ0 a) (⟨T.c, l', T.lost⟩, 0)).1.c a 2, (shA σ0 E.room (ptrs E.ls σ0 a) (⟨T.c, l', T.lost⟩, 0)).1.l, (shA σ0 E.room (ptrs E.ls σ0 a) (⟨T.c, l', T.lost⟩, 0)).1.lost⟩, 1 + ((shA σ0 E.room (ptrs E.ls σ0 a) (⟨T.c, l', T.lost⟩, 0)).2 : Int)) by
    unfold stT
    rw [hl, List.reverse_append]
    simp)
  have HG := Lib.hid (grey_some w wr E σ0 T σ v h0 h l' a hl hc)
  have hab := h.wf a (by rw [hl]; simp)
  obtain ⟨k, s, t, hh, ht⟩ : ∃ k s t, hat σ0 a = some (k, s) ∧ σ0.M k s = some t := by
    rcases hh : hat σ a with _ | ⟨k, s⟩
    · have := h.col a
      unfold col at this
      rw [hh] at this
      dsimp only at this
      rw [hc] at this
      cases this
    · obtain ⟨_, _, t, ht⟩ := hat_bd h.hw.hp hh
      obtain ⟨t0, ht0, _⟩ := h.evo.shape ht
      rw [h.evo.hat_] at hh
      exact ⟨k, s, t0, hh, ht0⟩
  have HHH := Lib.hid hh
  have HC := Lib.hid hc
  have HWD := Lib.hid hwd
  clear h hl hc hh ht hwd
  obtain ⟨wo, rfl⟩ : ∃ wo : World, wo = wr := ⟨_, rfl⟩
  obtain ⟨T1, hT1⟩ : ∃ T1 : TS, (⟨T.c, l', T.lost⟩ : TS) = T1 := ⟨_, rfl⟩
  have HC1 := Lib.hid (show T1.c a = 1 by rw [← hT1]; exact HC.out)
  rw [hT1] at HST HG
  rw [HST.out]
  clear hT1
  go_enter Tryd.func65, Tryd.ntmps65
  go_wp2_with fail
  refine HG.out.mono ?_
  rintro e w1 ⟨σ1, v1, rfl, h1, hk1, hg1⟩
  have H1 := Lib.hid h1
  have HK1 := Lib.hid hk1
  have HG1 := Lib.hid hg1
  clear h1 hk1 hg1
  dsimp only
  go_wp2_with fail
  refine (pointers_any E.B E.ls σ1 a k s E.zs E.sa E.sc _ H1.out.hw.hp (by omega) (by rw [H1.out.evo.hat_]; exact HHH.out) H1.out.sh (by have := H1.out.zs; have := H1.out.hw.hp.z_lt; omega)).mono ?_
  rw [H1.out.evo.ptrs_]
  obtain ⟨vs, hvs⟩ : ∃ vs, ptrs E.ls σ0 a = vs := ⟨_, rfl⟩
  have HVL := Lib.hid (show vs.length ≤ 16 by
    rw [← hvs, ← H1.out.evo.ptrs_]
    have hh1 := (H1.out.evo.hat_ a).trans HHH.out
    obtain ⟨_, _, t1, ht1⟩ := hat_bd H1.out.hw.hp hh1
    obtain ⟨_, p, hp, _⟩ := hat_addr H1.out.hw.hp hh1
    obtain ⟨j, l, _, hl, hn, _⟩ := nfl_is H1.out.hw.hp ht1 hp
    have := (H1.out.hw.hp.len l (List.mem_of_getElem? hl)).2
    unfold ptrs
    rw [hh1]
    dsimp only
    have := pk_len (E.ls.getD ((σ1.M k s).getD (0, 0, 0)).1.toNat []) σ1.ws a (nfl E.ls σ1 k s)
    omega)
  rw [hvs] at HWD ⊢
  have HVS := Lib.hid hvs
  clear hvs
  rintro e w2 ⟨a2, c2, rfl, ho2, hb2⟩
  have hvl := HVL.out
  have H2 := Lib.hid (H1.out.call hb2)
  have HK2 := Lib.hid (HK1.out.trans (Kept.of_below hb2 _))
  have HO2 := Lib.hid ho2
  have HNF := Lib.hid (show ∀ i, (Value.slice a2 vs.length c2).ownBlock = some i → ¬ E.foot σ0 v1 i from fun i hi e => by
    have h1 := (ho2.lt i hi).1
    have h2 := H1.out.foot_lt e
    omega)
  have hz12 := hb2.size
  have HK1z := HK1.out.size
  clear ho2 hb2 H1 HK1
  dsimp only
  go_wp2_with fail
  go_loopw [9, 11, 25] (fun nv _ iv wr => ∃ (q : Nat) (σ3 : HS) (v3 : Value), q ≤ vs.length ∧ iv = .int .i64 (q : Int) ∧ nv = .int .i64 (1 + ((shA σ0 E.room (vs.take q) (T1, 0)).2 : Int)) ∧ TR w wr E σ0 (shA σ0 E.room (vs.take q) (T1, 0)).1 σ3 v3 ∧ Kept (E.foot σ0 v) wo wr ∧ Pil.Grow v1 v3 w2.heap.size ∧ w2.heap.size ≤ wr.heap.size ∧ Kept (E.foot σ0 v1) w2 wr) (fun _ _ iv _ => vs.length - (intOf iv).toNat)
  case atStart => exact ⟨0, σ1, v1, Nat.zero_le _, rfl, rfl, H2.out, HK2.out, Pil.Grow.refl _ _, Nat.le_refl _, Kept.refl _ _⟩
  case round =>
    clear H2 HK2
    obtain ⟨q, σ3, v3, hq, rfl, rfl, htr, hk, hg, hsz, hk2⟩ := hrel
    have H3 := Lib.hid htr
    have HK3 := Lib.hid hk
    have HG3 := Lib.hid hg
    have HKK := Lib.hid hk2
    clear htr hk hg hk2
    by_cases hqn : q < vs.length
    · have hqn2 : (q : Int) < (vs.length : Int) := by omega
      obtain ⟨x, hx⟩ : ∃ x, vs[q]? = some x := ⟨_, List.getElem?_eq_getElem hqn⟩
      have HTK := Lib.hid (show shA σ0 E.room (vs.take (q + 1)) (T1, 0) = sh1 σ0 E.room (shA σ0 E.room (vs.take q) (T1, 0)) x by
        rw [List.take_add_one, hx]; exact shA_snoc _ _ _ _ _)
      have hcb : (shA σ0 E.room (vs.take q) (T1, 0)).2 ≤ q := by
        have := shA_cnt σ0 E.room (vs.take q) (T1, 0)
        rw [List.length_take] at this
        dsimp only at this
        omega
      have HOW := Lib.hid (HKK.out.own HO2.out fun i hi => HNF.out i hi)
      obtain ⟨g, rfl⟩ : ∃ g, a2 = some ⟨g, 0, none⟩ := by
        rcases HOW.out.2 with ⟨_, h⟩ | ⟨g, cap, _, h, _⟩
        · exfalso; omega
        · injection h with h3; exact ⟨g, h3⟩
      have hcell := HOW.out.cells (g := g) rfl q (.int .i64 x) (by simp [ints', hx])
      rw [add_form] at hcell
      have hcell : wr.cell? ⟨g, q, none⟩ = some (.int .i64 x) := by simpa using hcell
      obtain ⟨p, hp⟩ : ∃ p, shA σ0 E.room (vs.take q) (T1, 0) = p := ⟨_, rfl⟩
      rw [hp] at H3 HTK hcb ⊢
      have hxm := HWD.out x (List.mem_of_getElem? hx)
      clear hx hp
      go_wp2_with fail
      have hA := fresh_alloc (Below.refl wr.heap.size wr) (.cells #[.int .i64 x] 3)
      have hN := Blk.new wr #[.int .i64 x] 3
      have H4 := Lib.hid (H3.out.call hA)
      have HK4 := Lib.hid (HK3.out.alloc (.cells #[.int .i64 x] 3))
      have HKK4 := Lib.hid (HKK.out.alloc (.cells #[.int .i64 x] 3))
      have hnf : ¬ E.foot σ0 v3 wr.heap.size := fun e => Nat.lt_irrefl _ (H3.out.foot_lt e)
      refine (shade_any w _ E σ0 _ σ3 v3 h0 H4.out _ 1 1 [x] rfl (by omega) (fun y hy => by rw [List.mem_singleton.1 hy]; exact hxm) (fun j z hz => by
        obtain ⟨rfl, rfl⟩ : j = 0 ∧ z = x := by
          rcases j with _ | j
          · exact ⟨rfl, by simpa using hz.symm⟩
          · simp at hz
        exact ⟨wr.heap.size, 0, rfl, by simp, hnf, hN.cell 0⟩)).mono ?_
      rintro e w5 ⟨σ5, v5, rfl, h5, hk5, hg5⟩
      have HE := Lib.hid (show sh1 σ0 E.room p x = ((shA σ0 E.room [x] (p.1, 0)).1, p.2 + (shA σ0 E.room [x] (p.1, 0)).2) from by
        show sh1 σ0 E.room p x = ((sh1 σ0 E.room (p.1, 0) x).1, p.2 + (sh1 σ0 E.room (p.1, 0) x).2)
        unfold sh1
        rcases fo σ0 x with _ | b
        · rfl
        · dsimp only
          split
          · simp
          · rfl)
      obtain ⟨r, hr⟩ : ∃ r, shA σ0 E.room [x] (p.1, 0) = r := ⟨_, rfl⟩
      have hr1 := shA_cnt σ0 E.room [x] (p.1, 0)
      rw [hr] at h5 HE hr1 ⊢
      have hr1 : r.2 ≤ 1 := by simpa using hr1
      have H5 := Lib.hid h5
      have HK5 := Lib.hid (HK4.out.step hk5 fun i hi e => foot_grow HG1.out hi (foot_grow HG3.out (by omega) e))
      have HKK5 := Lib.hid (HKK4.out.step hk5 fun i hi e => foot_grow HG3.out hi e)
      have HG5 := Lib.hid (grow_trans HG3.out hg5 (by simp; omega))
      have hz5 := hk5.size
      have hz5 : w2.heap.size ≤ w5.heap.size := by simp at hz5; omega
      clear h5 hk5 hg5 hA hN H3 HK3 HKK HG3 H4 HK4 HKK4 hnf hcell hr HOW
      dsimp only
      go_wp2_with fail
      go_roundw
      case rel => exact ⟨q + 1, σ5, v5, by omega, by go_num, by rw [HTK.out, HE.out]; go_num, by rw [HTK.out, HE.out]; exact H5.out, HK5.out, HG5.out, hz5, HKK5.out⟩
      case measure => simp [intOf]; omega
    · obtain rfl : q = vs.length := by omega
      have hqn2 : ¬ (vs.length : Int) < (vs.length : Int) := by omega
      rw [List.take_of_length_le (Nat.le_refl _)] at H3 ⊢
      have HCK := Lib.hid (show (shA σ0 E.room vs (T1, 0)).1.c a = 1 from (shA_keep σ0 E.room vs (T1, 0) (by show T1.c a ≠ 0; rw [HC1.out]; decide)).trans HC1.out)
      have hcb : (shA σ0 E.room vs (T1, 0)).2 ≤ 16 := by
        have := shA_cnt σ0 E.room vs (T1, 0)
        dsimp only at this
        omega
      obtain ⟨p, hp⟩ : ∃ p, shA σ0 E.room vs (T1, 0) = p := ⟨_, rfl⟩
      rw [hp] at H3 HCK hcb ⊢
      have HPP := Lib.hid hp
      clear hp
      have hh3 := (H3.out.evo.hat_ a).trans HHH.out
      obtain ⟨_, _, t3, ht3⟩ := hat_bd H3.out.hw.hp hh3
      have hc3 : t3.2.2 = 1 := by
        have := (H3.out.col a).trans HCK.out
        unfold col at this
        rw [hh3] at this
        dsimp only at this
        rw [ht3] at this
        exact this
      have HH3 := Lib.hid hh3
      have HT3 := Lib.hid ht3
      clear hh3 ht3
      go_wp2_with fail
      refine (finish_yes E.B E.ls σ3 a k s t3 _ H3.out.hw.hp (by omega) HH3.out HT3.out hc3).mono ?_
      rintro e w5 ⟨rfl, hp5, hk5⟩
      have H5 := Lib.hid (H3.out.painted h0 HH3.out HT3.out hp5 hk5)
      have HK5 := Lib.hid (HK3.out.trans (hk5.wide fun i _ e => .inl (e ▸ foot_bm E.B σ0)))
      have HG5 := Lib.hid (grow_trans HG1.out HG3.out (by have := HK1z; omega))
      clear hp5 hk5 H3 HK3
      dsimp only
      go_wp2_with fail
      go_ret
      rw [HVS.out, HPP.out]
      exact ⟨_, v3, rfl, H5.out, HK5.out, HG5.out⟩
theorem step_end (w wr : World) (E : TB) (σ0 : HS) (T : TS) (σ : HS) (v : Value) (h : TR w wr E σ0 T σ v) (hl : T.l = []) (hc : T.lost = false) :
    Calls Tryd.prog 65 #[.pointer (some ⟨E.B.b, 0, none⟩), .pointer (some ⟨E.bp, 0, none⟩), .slice E.sa E.ls.length E.sc] wr fun e w' => e = .returned (.int .i64 (-1)) ∧ wr = w' := by
  have HG := Lib.hid (grey_none w wr E σ0 T σ v h hl)
  have HP := Lib.hid (hc ▸ h.pl)
  clear h hl hc
  go_enter Tryd.func65, Tryd.ntmps65
  go_wp2_with fail
  refine HG.out.mono ?_
  rintro e w1 ⟨rfl, rfl⟩
  dsimp only
  go_wp2_with fail
  refine (Pil.lost_any _ _ _ _ _ _ _ HP.out).mono ?_
  rintro e w1 ⟨rfl, rfl⟩
  dsimp only
  go_wp2_with fail
  go_ret
  exact ⟨rfl, rfl⟩
theorem step_lost (w wr : World) (E : TB) (σ0 : HS) (T : TS) (σ : HS) (v : Value) (h0 : 0 < w.heap.size) (h : TR w wr E σ0 T σ v) (hl : T.l = []) (hc : T.lost = true) :
    Calls Tryd.prog 65 #[.pointer (some ⟨E.B.b, 0, none⟩), .pointer (some ⟨E.bp, 0, none⟩), .slice E.sa E.ls.length E.sc] wr
      (Went w E σ0 (stT E.ls σ0 E.room T).1 v (.int .i64 (stT E.ls σ0 E.room T).2) wr) := by
  have HST := Lib.hid (show stT E.ls σ0 E.room T = (putT E.room ⟨T.c, [], false⟩ (grs σ0 T), 0) by
    unfold stT
    rw [hl, List.reverse_nil]
    dsimp only
    rw [if_pos hc])
  have HG := Lib.hid (grey_none w wr E σ0 T σ v h hl)
  have HP := Lib.hid (hc ▸ h.pl)
  have H := Lib.hid (show TR w wr E σ0 ⟨T.c, [], true⟩ σ v by
    have e : T = ⟨T.c, [], true⟩ := by rw [← hl, ← hc]
    exact e ▸ h)
  clear h hl hc
  go_enter Tryd.func65, Tryd.ntmps65
  go_wp2_with fail
  refine HG.out.mono ?_
  rintro e w1 ⟨rfl, rfl⟩
  dsimp only
  go_wp2_with fail
  refine (Pil.lost_any _ _ _ _ _ _ _ HP.out).mono ?_
  rintro e w1 ⟨rfl, rfl⟩
  dsimp only
  go_wp2_with fail
  refine (Pil.found_any _ _ _ _ _ _ _ H.out.pl).mono ?_
  rintro e w2 ⟨rfl, hp2, hk2⟩
  have H2 := Lib.hid (H.out.piled h0 hp2 (Pil.Grow.refl _ _) hk2 (Nat.zero_le _) (fun a ha => by cases ha))
  have HK2 := Lib.hid (hk2.wide (S' := E.foot σ0 v) fun i _ e => .inr e)
  clear hp2 hk2 H
  dsimp only
  go_wp2_with fail
  refine (greys_any E.B E.ls σ _ H2.out.hw.hp H2.out.hw.tab).mono ?_
  rw [show greyOf σ = grs σ0 T by
    unfold greyOf grs
    rw [H2.out.evo.ps]
    exact List.filter_congr fun a _ => by rw [H2.out.col]]
  have HGB := Lib.hid (show ∀ a ∈ grs σ0 T, 1048576 ≤ a ∧ a ≤ 1050624 from fun a ha => by
    have ha := (List.mem_filter.1 ha).1
    rw [← H2.out.evo.ps] at ha
    obtain ⟨q, hq⟩ := (obj_in H2.out.hw.hp).1 ha
    exact hat_bound H2.out.hw.hp hq)
  have hgl : (grs σ0 T).length ≤ 2048 := by
    have h1 : (grs σ0 T).length ≤ (allOf σ0.ps σ0.ps.length).length := List.length_filter_le _ _
    have h2 := allOf_len σ0.ps σ0.ps.length
    have h3 := H2.out.hw.hp.ar.hn
    rw [H2.out.evo.ps] at h3
    omega
  obtain ⟨G, hG⟩ : ∃ G, grs σ0 T = G := ⟨_, rfl⟩
  rw [hG] at HST HGB hgl ⊢
  clear hG
  rintro e w3 ⟨a3, c3, rfl, ho3, hb3⟩
  have H3 := Lib.hid (H2.out.call hb3)
  have HK3 := Lib.hid (HK2.out.trans (Kept.of_below hb3 _))
  have HO3 := Lib.hid ho3
  have HNF := Lib.hid (show ∀ i, (Value.slice a3 G.length c3).ownBlock = some i → ¬ Pil.own E.bp v i from fun i hi e => by
    have h1 := (ho3.lt i hi).1
    have h2 := H2.out.foot_lt (.inr e)
    omega)
  clear ho3 hb3
  dsimp only
  go_wp2_with fail
  refine (Pil.put_any E.zp E.bp E.room [] false v a3 G.length c3 G _ H3.out.pl rfl (Nat.zero_le _) H3.out.rm (by omega) (fun z hz => wf_addr (HGB.out z hz)) (fun j z hz => by
    obtain ⟨g, rfl⟩ : ∃ g, a3 = some ⟨g, 0, none⟩ := by
      rcases HO3.out.2 with ⟨_, h⟩ | ⟨g, cap, _, h, _⟩
      · have := (List.getElem?_eq_some_iff.1 hz).1
        exfalso; omega
      · injection h with h3; exact ⟨g, h3⟩
    have hcell := HO3.out.cells (g := g) rfl j (.int .i64 z) (by simp [ints', hz])
    rw [add_form] at hcell
    exact ⟨g, 0, rfl, (HO3.out.lt g rfl).2, HNF.out g rfl, by simpa using hcell⟩)).mono ?_
  rintro e w4 ⟨rfl, ⟨v4, hp4, hg4⟩, hk4⟩
  have H4 := Lib.hid (H3.out.piled h0 hp4 hg4 hk4 (putT_len (T := ⟨T.c, [], false⟩) (Nat.zero_le _) G) (putT_wf (T := ⟨T.c, [], false⟩) (fun b hb => by cases hb) HGB.out))
  have HK4 := Lib.hid (HK3.out.trans (hk4.wide fun i _ e => .inr e))
  have hsz := HK3.out.size
  have HG4 := Lib.hid (show Pil.Grow v v4 wr.heap.size from grow_trans (Pil.Grow.refl v _) hg4 hsz)
  clear hp4 hg4 hk4 H3 HK3
  dsimp only
  go_wp2_with fail
  go_ret
  rw [HST.out]
  exact ⟨σ, v4, rfl, H4.out, HK4.out, HG4.out⟩
end Go.Proofs.YtoajbjeiplolnaaDoorR.Tn
