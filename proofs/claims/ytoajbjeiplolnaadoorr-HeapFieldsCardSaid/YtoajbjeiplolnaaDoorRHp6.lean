/- Package heap: the contract of Alloc. -/
import Derived.Test.YtoajbjeiplolnaaDoorRHp5
namespace Go.Proofs.YtoajbjeiplolnaaDoorR.Hp
open Go.RowKit Pg Ar Tm
set_option linter.unusedSimpArgs false
set_option linter.unusedVariables false

/-- The state behind an object made. -/
def made (σ : HS) (k : Nat) (p : PM) (s z : Nat) (sh n : Nat) (bl : Bool) : HS :=
  { ps := σ.ps.set k (some ⟨p.b, p.c, p.n, ins p.U s, del p.M s⟩), ws := clr σ.ws (32 * k + s * z) z, M := put σ.M k s (some ((sh : Int), σ.sr + 1, if bl then 2 else 0)), sr := σ.sr + 1, gv := σ.gv + (n : Int) }
def Al (B : HB) (ls : List (List Int)) (σ : HS) (sh n : Nat) (bl : Bool) (w : World) (e : Ending) (w' : World) : Prop :=
  (e = .returned (.tuple #[.int .i64 0, .int .i64 5]) ∧ Full σ.ps (Cls.cof n) σ.ps.length ∧ HpAt w' B ls σ ∧ Below w.heap.size w w') ∨
  (∃ (k : Nat) (p : PM) (s z : Nat), e = .returned (.tuple #[.int .i64 (1048576 + 32 * k + s * z : Nat), .int .i64 0]) ∧ Full σ.ps (Cls.cof n) k ∧ σ.ps[k]? = some (some p) ∧ p.c = Cls.cof n ∧ Cls.csz p.c = z ∧ s < p.n ∧ p.U.testBit s = false ∧ (∀ i, i < s → p.U.testBit i = true) ∧
    HpAt w' B ls (made σ k p s z sh n bl) ∧ Kept (fun i => i = B.b ∨ i = p.b ∨ i = B.gw ∨ i = B.bm) w w')
theorem made_inv {w : World} {B : HB} {ls : List (List Int)} {σ : HS} (h : HpAt w B ls σ) {k : Nat} {p : PM} (hk : σ.ps[k]? = some (some p)) {s z sh : Nat} {l : List Int} {bl : Bool} (hl : ls[sh]? = some l) (hc : p.c = Cls.cof l.length) (hs : p.U.testBit s = false) :
    (∀ i j, ((made σ k p s z sh l.length bl).M i j).isSome = true ↔ ∃ q, (made σ k p s z sh l.length bl).ps[i]? = some (some q) ∧ q.U.testBit j = true) ∧
    (∀ i j t q, (made σ k p s z sh l.length bl).M i j = some t → (made σ k p s z sh l.length bl).ps[i]? = some (some q) → ∃ l', ls[t.1.toNat]? = some l' ∧ 0 ≤ t.1 ∧ Cls.cof l'.length = q.c) := by
  unfold made
  dsimp only
  have hlt := (List.getElem?_eq_some_iff.1 hk).1
  constructor
  · intro i j
    unfold put
    by_cases hi : i = k
    · subst hi
      by_cases hj : j = s
      · subst hj
        rw [if_pos ⟨rfl, rfl⟩]
        simp only [Option.isSome_some, true_iff]
        exact ⟨_, List.getElem?_set_self hlt, by rw [ins_bit]; simp⟩
      · rw [if_neg (fun e => hj e.2), h.inv i j]
        constructor
        · rintro ⟨q, hq, hb⟩
          rw [hk] at hq
          have hq := Option.some.inj (Option.some.inj hq)
          subst hq
          exact ⟨_, List.getElem?_set_self hlt, by rw [ins_bit, hb]; rfl⟩
        · rintro ⟨q, hq, hb⟩
          rw [List.getElem?_set_self hlt] at hq
          have hq := Option.some.inj (Option.some.inj hq)
          subst hq
          rw [ins_bit] at hb
          have hne : ¬ s = j := fun e => hj e.symm
          simp [hne] at hb
          exact ⟨p, hk, hb⟩
    · rw [if_neg (fun e => hi e.1), h.inv i j, List.getElem?_set_ne (fun e => hi e.symm)]
  · intro i j t q ht hq
    unfold put at ht
    by_cases hi : i = k
    · subst hi
      rw [List.getElem?_set_self hlt] at hq
      have hq := Option.some.inj (Option.some.inj hq)
      subst hq
      dsimp only
      by_cases hj : j = s
      · subst hj
        rw [if_pos ⟨rfl, rfl⟩] at ht
        have ht := Option.some.inj ht
        subst ht
        exact ⟨l, by simpa using hl, by simp, hc.symm⟩
      · rw [if_neg (fun e => hj e.2)] at ht
        exact h.fit i j t p ht hk
    · rw [if_neg (fun e => hi e.1)] at ht
      rw [List.getElem?_set_ne (fun e => hi e.symm)] at hq
      exact h.fit i j t q ht hq
theorem took_shape {b gp gw : Nat} {ps : List (Option PM)} {ws : List Int} {c : Int} {w w' : World} {e : Ending} (h : Took b gp gw ps ws c w e w') : ∃ (x : Int) (y : Bool), e = .returned (.tuple #[.int .i64 x, .bool y]) := by
  rcases h with ⟨he, _⟩ | ⟨k, p, s, z, he, _⟩
  · exact ⟨_, _, he⟩
  · exact ⟨_, _, he⟩
set_option maxRecDepth 100000 in
set_option maxHeartbeats 1000000 in
theorem alloc_any (B : HB) (ls : List (List Int)) (σ : HS) (sh : Nat) (l : List Int) (bl : Bool) (w : World) (h : HpAt w B ls σ) (hT : Tab w) (hfoot : ¬ Foot B.ba B.gp B.gw σ.ps 0) (hl : ls[sh]? = some l)
    (hsr : 0 ≤ σ.sr ∧ σ.sr ≤ 4611686018427387904) (hgv : 0 ≤ σ.gv ∧ σ.gv ≤ 4611686018427387904) :
    Calls Tryd.prog 38 #[.pointer (some ⟨B.b, 0, none⟩), .int .i64 sh, .bool bl] w (Al B ls σ sh l.length bl w) := by
  have H := Lib.hid h
  have HT := Lib.hid hT
  have HFT := Lib.hid hfoot
  have HL := Lib.hid hl
  have hjl : sh < ls.length := (List.getElem?_eq_some_iff.1 hl).1
  have hj0 : (0 : Int) ≤ (sh : Int) := by omega
  have hd1 : decide ((sh : Int) < 0) = false := by simp
  have hd2 : decide (ls.length ≤ sh) = false := by simp; omega
  have hj2 : (sh : Int) < (ls.length : Int) := by omega
  obtain ⟨e0, e1, e2, e3, e4⟩ := h.five
  obtain ⟨sb, off, A', c', hSA, hsb, hsc⟩ := rs_at h.sh hl
  have HSA := Lib.hid hSA
  rw [hSA] at e1
  have hlen := h.len l (List.mem_of_getElem? hl)
  clear h hT hfoot hl hSA
  go_enter Tryd.func38, Tryd.ntmps38
  go_wp2_with fail
  refine (none_any B ls σ _ H.out).mono ?_
  rintro e w1 ⟨rfl, rfl⟩
  dsimp only
  go_wp2_with fail
  go_upto_region 6 with (fail)
  go_cut [9, 10] from 40 to 48 (fun a b wx => ∃ (x : Int) (y : Bool) (w0 : World), a = .int .i64 x ∧ b = .bool y ∧ Below w.heap.size w w0 ∧ Took B.ba B.gp B.gw σ.ps σ.ws (Cls.cof l.length) w0 (.returned (.tuple #[.int .i64 x, .bool y])) wx)
  case first =>
    have HTK := Lib.hid (take_any B.ba B.gp B.gw σ.ps σ.ws (Cls.cof l.length) w.drew (H.out.drewN 1).ar HT.out HFT.out)
    go_region_with (first
      | (go_at_call 100; refine (Cls.of_any _ _).mono ?_; rintro e w1 ⟨rfl, rfl⟩; dsimp only)
      | (go_at_call 20; refine HTK.out.mono ?_; intro e w2 ht2; obtain ⟨x, y, rfl⟩ := took_shape ht2; have HT2 := Lib.hid ht2; clear ht2; dsimp only))
    all_goals
      simp only [List.getElem_toArray, List.getElem_cons_succ, List.getElem_cons_zero]
      go_wp2_with fail
      go_frame
      go_meet
      exact ⟨_, _, w.drew, rfl, rfl, (Below.refl _ _).drew, HT2.out⟩
  case rest =>
    obtain ⟨x, y, w0, rfl, rfl, hb0, htk⟩ := hcut
    clear e0 e1 e2 e3 e4 hsc HT HFT
    rcases htk with ⟨he, hF, rfl⟩ | ⟨k, p, s, z, he, hF, hk, hc, hz, hs, hU, hall, ha, hK⟩
    · simp at he
      obtain ⟨rfl, rfl⟩ := he
      have HF := Lib.hid hF
      have HB0 := Lib.hid hb0
      clear hF hb0
      go_wp2_with fail
      go_ret2
      exact Or.inl ⟨rfl, HF.out, H.out.call HB0.out, HB0.out⟩
    · obtain ⟨A, hA⟩ : ∃ A : Int, ((1048576 + 32 * k + s * z : Nat) : Int) = A := ⟨_, rfl⟩
      rw [hA] at he
      simp only [Ending.returned.injEq, Value.tuple.injEq] at he
      simp at he
      obtain ⟨rfl, rfl⟩ := he
      have H0 := Lib.hid (H.out.call hb0)
      have hpg := H0.out.ar.page k p hk
      have hfit := fit (c := p.c) (n := p.n) (s := s) hpg.2 (by rw [hc]; exact hz) hs
      have hkl := (List.getElem?_eq_some_iff.1 hk).1
      have hn64 := H0.out.ar.hn
      have hkk : k < 64 := by omega
      have hss : s < 32 := by have := hpg.1.hn; omega
      obtain ⟨g, hg⟩ : ∃ g, s * z = g := ⟨_, rfl⟩
      obtain ⟨f, hf⟩ : ∃ f, 32 * k + g = f := ⟨_, rfl⟩
      have HX := Lib.hid (show x - 1048576 = (f : Int) by omega)
      have hfb : (f : Int) < 2048 := by omega
      have HD := Lib.hid (show (f : Int) / 32 = (k : Int) by omega)
      have HM := Lib.hid (show (f : Int) - (k : Int) * 32 = (g : Int) by omega)
      have HG := Lib.hid (show (g : Int) / (z : Int) = (s : Int) by rw [← hg]; simp only [Int.natCast_mul]; exact Int.mul_ediv_cancel _ (by omega))
      have HC := Lib.hid (show (g : Int) < Cls.csl (Cls.cof l.length) * Cls.csz (Cls.cof l.length) by
        rw [hz, ← hc, hpg.2, ← hg, ← Int.natCast_mul]
        exact Int.ofNat_lt.2 (Nat.mul_lt_mul_of_pos_right hs (by omega)))
      have hgb : (g : Int) < 32 := by omega
      have HME := Lib.hid (H0.out.toHpMem.arena ha hK (fun i hi => by
        rcases hi with rfl | rfl
        · exact .inl (.inr (.inr (.inr ⟨k, p, hk, rfl⟩)))
        · exact .inl (.inr (.inr (.inl rfl)))) (fun i hi => by
        rcases foot_set_of hi with e | ⟨q, e, e'⟩
        · exact .inl e
        · have e := Option.some.inj e
          subst e
          subst e'
          exact .inl (.inr (.inr (.inr ⟨k, p, hk, rfl⟩)))))
      have HKE := Lib.hid hK
      have HB0 := Lib.hid hb0
      have HINV := Lib.hid (made_inv H0.out hk (z := z) (bl := bl) HL.out hc hU)
      have HFA := Lib.hid (show Full σ.ps (Cls.cof l.length) k ∧ σ.ps[k]? = some (some p) ∧ p.c = Cls.cof l.length ∧ Cls.csz p.c = z ∧ s < p.n ∧ p.U.testBit s = false ∧ (∀ i, i < s → p.U.testBit i = true) from ⟨hF, hk, hc, by rw [hc]; exact hz, hs, hU, hall⟩)
      have HZ := Lib.hid hz
      have HA := Lib.hid hA
      have HK2 := Lib.hid hkk
      have HS2 := Lib.hid hss
      have hk64 : (k : Int) < 64 := by omega
      clear hb0 hF hk hc hz hs hU hall ha hK hA hpg hfit hkl hn64 hss hkk hg hf H
      obtain ⟨e0, e1, e2, e3, e4⟩ := HME.out.five
      have f3 := HME.out.blk.free 3
      have f4 := HME.out.blk.free 4
      cases bl
      · have hx := HX.out
        go_wp2_with (simp only [hx])
        clear hx
        have hd := HD.out
        rw [hd]
        clear hd e0 e1 e2 e3 e4 f3 f4
        have hV : Blk ((wc.setCell ⟨B.b, 3, none⟩ (.int .i64 (σ.sr + 1))).setCell ⟨B.b, 4, none⟩ (.int .i64 (σ.gv + l.length))) B.b #[.pointer (some ⟨B.ba, 0, none⟩), .slice B.SA ls.length B.cS, .map (some B.bm), .int .i64 (σ.sr + 1), .int .i64 (σ.gv + l.length)] 134 := Blk.of_eq ((HME.out.blk.set 3 _).set 4 _) rfl
        have hm1 := HME.out.counted hV (fun i hi => (Below.heap_setCell _ _ _ i (by simpa using hi)).trans (Below.heap_setCell _ _ _ i (by simpa using hi)))
        have hk1 : Kept (fun i => i = B.b ∨ i = p.b ∨ i = B.gw ∨ i = B.bm) w ((wc.setCell ⟨B.b, 3, none⟩ (.int .i64 (σ.sr + 1))).setCell ⟨B.b, 4, none⟩ (.int .i64 (σ.gv + l.length))) :=
          (((Kept.of_below HB0.out _).step HKE.out (fun i _ e => by rcases e with e | e <;> simp [e])).set (p := ⟨B.b, 3, none⟩) (.inl (.inl rfl)) _).set (p := ⟨B.b, 4, none⟩) (.inl (.inl rfl)) _
        have hbt := Blk.new ((wc.setCell ⟨B.b, 3, none⟩ (.int .i64 (σ.sr + 1))).setCell ⟨B.b, 4, none⟩ (.int .i64 (σ.gv + l.length))) #[.int .i64 sh, .int .i64 (σ.sr + 1), .int .i64 0] 136
        have hm2 := hm1.call (fresh_alloc (Below.refl _ _) (.cells #[.int .i64 sh, .int .i64 (σ.sr + 1), .int .i64 0] 136))
        have hk2 := hk1.alloc (.cells #[.int .i64 sh, .int .i64 (σ.sr + 1), .int .i64 0] 136)
        rw [show ((wc.setCell ⟨B.b, 3, none⟩ (.int .i64 (σ.sr + 1))).setCell ⟨B.b, 4, none⟩ (.int .i64 (σ.gv + l.length))).heap.size = wc.heap.size by simp] at hbt
        have HM2 := Lib.hid hm2
        have HK3 := Lib.hid hk2
        have HBT := Lib.hid hbt
        clear hV hm1 hk1 hbt hm2 hk2 HME HKE HB0
        generalize ((wc.setCell ⟨B.b, 3, none⟩ (.int .i64 (σ.sr + 1))).setCell ⟨B.b, 4, none⟩ (.int .i64 (σ.gv + l.length))).alloc (.cells #[.int .i64 sh, .int .i64 (σ.sr + 1), .int .i64 0] 136) = W5 at *
        refine (Cls.of_any _ _).mono ?_
        rintro e w1 ⟨rfl, rfl⟩
        dsimp only
        have hx := HX.out
        have hx3 := HM.out
        go_wp2_with (first | simp only [hx] | simp only [hx3])
        clear hx hx3
        refine (Cls.slot_in _ _ _ (by omega) HC.out).mono ?_
        rw [HZ.out, HG.out]
        rintro e w1 ⟨rfl, rfl⟩
        dsimp only
        go_wp2_with fail
        obtain ⟨t0, t1, t2, -, -, -⟩ := HBT.out.three
        obtain ⟨e0, e1, e2, e3, e4⟩ := HM2.out.five
        go_still_tail 8, (by kernel_rfl)
        change wpList _ _ _ _ _ W5.drew
        have HM3 := Lib.hid (HM2.out.drewN 1)
        have HK4 := Lib.hid (HK3.out.drewN 1)
        clear t0 t1 t2 e0 e1 e2 e3 e4 HM2 HK3 HBT
        have hW6 : W5.drewN 1 = W5.drew := rfl
        rw [hW6] at HM3 HK4
        clear hW6
        generalize W5.drew = W6 at *
        go_wp2_with (first
          | (at_mapUpdate; refine wpList_put rfl _ _ _ rfl (k := k) (s := s) ((sh : Int), σ.sr + 1, 0) rfl rfl rfl HM3.out.mp HK2.out HS2.out ?_; intro w7 hm7 hg7)
          | fail)
        go_ret2
        exact Or.inr ⟨k, p, s, z, by rw [HA.out]; rfl, HFA.out.1, HFA.out.2.1, HFA.out.2.2.1, HFA.out.2.2.2.1, HFA.out.2.2.2.2.1, HFA.out.2.2.2.2.2.1, HFA.out.2.2.2.2.2.2, ⟨HM3.out.mapped hm7 hg7, HINV.out.1, HINV.out.2⟩, HK4.out.step (Kept.of_grown hg7) (fun i _ e => .inr (.inr (.inr (Option.some.inj e))))⟩
      · have hx := HX.out
        go_wp2_with (simp only [hx])
        clear hx
        have hd := HD.out
        rw [hd]
        clear hd e0 e1 e2 e3 e4 f3 f4
        have hV : Blk ((wc.setCell ⟨B.b, 3, none⟩ (.int .i64 (σ.sr + 1))).setCell ⟨B.b, 4, none⟩ (.int .i64 (σ.gv + l.length))) B.b #[.pointer (some ⟨B.ba, 0, none⟩), .slice B.SA ls.length B.cS, .map (some B.bm), .int .i64 (σ.sr + 1), .int .i64 (σ.gv + l.length)] 134 := Blk.of_eq ((HME.out.blk.set 3 _).set 4 _) rfl
        have hm1 := HME.out.counted hV (fun i hi => (Below.heap_setCell _ _ _ i (by simpa using hi)).trans (Below.heap_setCell _ _ _ i (by simpa using hi)))
        have hk1 : Kept (fun i => i = B.b ∨ i = p.b ∨ i = B.gw ∨ i = B.bm) w ((wc.setCell ⟨B.b, 3, none⟩ (.int .i64 (σ.sr + 1))).setCell ⟨B.b, 4, none⟩ (.int .i64 (σ.gv + l.length))) :=
          (((Kept.of_below HB0.out _).step HKE.out (fun i _ e => by rcases e with e | e <;> simp [e])).set (p := ⟨B.b, 3, none⟩) (.inl (.inl rfl)) _).set (p := ⟨B.b, 4, none⟩) (.inl (.inl rfl)) _
        have hbt := Blk.new ((wc.setCell ⟨B.b, 3, none⟩ (.int .i64 (σ.sr + 1))).setCell ⟨B.b, 4, none⟩ (.int .i64 (σ.gv + l.length))) #[.int .i64 sh, .int .i64 (σ.sr + 1), .int .i64 2] 136
        have hm2 := hm1.call (fresh_alloc (Below.refl _ _) (.cells #[.int .i64 sh, .int .i64 (σ.sr + 1), .int .i64 2] 136))
        have hk2 := hk1.alloc (.cells #[.int .i64 sh, .int .i64 (σ.sr + 1), .int .i64 2] 136)
        rw [show ((wc.setCell ⟨B.b, 3, none⟩ (.int .i64 (σ.sr + 1))).setCell ⟨B.b, 4, none⟩ (.int .i64 (σ.gv + l.length))).heap.size = wc.heap.size by simp] at hbt
        have HM2 := Lib.hid hm2
        have HK3 := Lib.hid hk2
        have HBT := Lib.hid hbt
        clear hV hm1 hk1 hbt hm2 hk2 HME HKE HB0
        generalize ((wc.setCell ⟨B.b, 3, none⟩ (.int .i64 (σ.sr + 1))).setCell ⟨B.b, 4, none⟩ (.int .i64 (σ.gv + l.length))).alloc (.cells #[.int .i64 sh, .int .i64 (σ.sr + 1), .int .i64 2] 136) = W5 at *
        refine (Cls.of_any _ _).mono ?_
        rintro e w1 ⟨rfl, rfl⟩
        dsimp only
        have hx := HX.out
        have hx3 := HM.out
        go_wp2_with (first | simp only [hx] | simp only [hx3])
        clear hx hx3
        refine (Cls.slot_in _ _ _ (by omega) HC.out).mono ?_
        rw [HZ.out, HG.out]
        rintro e w1 ⟨rfl, rfl⟩
        dsimp only
        go_wp2_with fail
        obtain ⟨t0, t1, t2, -, -, -⟩ := HBT.out.three
        obtain ⟨e0, e1, e2, e3, e4⟩ := HM2.out.five
        go_still_tail 8, (by kernel_rfl)
        change wpList _ _ _ _ _ W5.drew
        have HM3 := Lib.hid (HM2.out.drewN 1)
        have HK4 := Lib.hid (HK3.out.drewN 1)
        clear t0 t1 t2 e0 e1 e2 e3 e4 HM2 HK3 HBT
        have hW6 : W5.drewN 1 = W5.drew := rfl
        rw [hW6] at HM3 HK4
        clear hW6
        generalize W5.drew = W6 at *
        go_wp2_with (first
          | (at_mapUpdate; refine wpList_put rfl _ _ _ rfl (k := k) (s := s) ((sh : Int), σ.sr + 1, 2) rfl rfl rfl HM3.out.mp HK2.out HS2.out ?_; intro w7 hm7 hg7)
          | fail)
        go_ret2
        exact Or.inr ⟨k, p, s, z, by rw [HA.out]; rfl, HFA.out.1, HFA.out.2.1, HFA.out.2.2.1, HFA.out.2.2.2.1, HFA.out.2.2.2.2.1, HFA.out.2.2.2.2.2.1, HFA.out.2.2.2.2.2.2, ⟨HM3.out.mapped hm7 hg7, HINV.out.1, HINV.out.2⟩, HK4.out.step (Kept.of_grown hg7) (fun i _ e => .inr (.inr (.inr (Option.some.inj e))))⟩
end Go.Proofs.YtoajbjeiplolnaaDoorR.Hp
