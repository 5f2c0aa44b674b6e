/- Package heap: the contract of SweepPage. -/
import Derived.Test.YtoajbjeiplolnaaDoorRHp8
namespace Go.Proofs.YtoajbjeiplolnaaDoorR.Hp
open Go.RowKit Pg Ar Tm
set_option linter.unusedSimpArgs false
set_option linter.unusedVariables false

theorem sweep_none (B : HB) (ls : List (List Int)) (σ : HS) (k : Int) (w : World) (h : HpAt w B ls σ) (hT : Tab w) (hg : Ar.get σ.ps k = none) :
    Calls Tryd.prog 41 #[.pointer (some ⟨B.b, 0, none⟩), .int .i64 k] w fun e w' => e = .returned (.int .i64 0) ∧ Below w.heap.size w w' := by
  have H := Lib.hid h
  have HG := Lib.hid hg
  have HA := Lib.hid (page_all (p := (none : Option PM)) (w := w) (fun q e => by cases e) hT)
  obtain ⟨e0, e1, e2, e3, e4⟩ := h.five
  clear h hT hg
  go_enter Tryd.func41, Tryd.ntmps41
  go_wp2_with fail
  refine (none_any B ls σ _ H.out).mono ?_
  rintro e w1 ⟨rfl, rfl⟩
  dsimp only
  go_wp2_with fail
  refine (page_any _ _ _ _ _ _ _ H.out.ar).mono ?_
  rw [HG.out]
  rintro e w1 ⟨rfl, rfl⟩
  dsimp only [ptr]
  go_wp2_with fail
  refine HA.out.mono ?_
  rintro e w1 ⟨a, c, rfl, ho, hb⟩
  have H1 := Lib.hid (H.out.call hb)
  have HB1 := Lib.hid hb
  obtain ⟨e0, e1, e2, e3, e4⟩ := H1.out.five
  clear ho hb
  dsimp only [lst, List.length_nil]
  go_wp2_with fail
  go_loopw [5, 20] (fun g i wr => g = .int .i64 0 ∧ i = .int .i64 0 ∧ wr = w1) (fun _ _ _ => 0)
  case atStart => exact ⟨rfl, rfl, rfl⟩
  case round =>
    obtain ⟨rfl, rfl, rfl⟩ := hrel
    go_wp2_with fail
    refine (drop_no _ _ _ _ _ k _ H1.out.ar (fun p hp => by rw [HG.out] at hp; cases hp)).mono ?_
    rintro e w2 ⟨rfl, d, rfl⟩
    dsimp only
    go_wp2_with fail
    go_ret
    exact ⟨rfl, below_drewN HB1.out d⟩
theorem nodup_take {L : List Nat} (h : L.Pairwise (· ≠ ·)) {q s : Nat} (hq : L[q]? = some s) : s ∉ L.take q := by
  intro hm
  obtain ⟨i, hi, e⟩ := List.mem_iff_getElem.1 hm
  rw [List.length_take] at hi
  obtain ⟨hql, hqs⟩ := List.getElem?_eq_some_iff.1 hq
  rw [List.getElem_take] at e
  exact List.pairwise_iff_getElem.1 h i q (by omega) hql (by omega) (e.trans hqs.symm)
theorem bl_nodup (x : Nat) : (Bit.bl x).Pairwise (· ≠ ·) := by
  unfold Bit.bl Bit.sl
  exact List.Pairwise.filter _ (List.pairwise_lt_range.imp fun h => Nat.ne_of_lt h)
theorem bl_at {x q s : Nat} (h : (Bit.bl x)[q]? = some s) : x.testBit s = true ∧ s < 32 := by
  have := Bit.sl_mem.1 (List.mem_of_getElem? h)
  exact ⟨this.2, this.1⟩
theorem nats_at {L : List Nat} {q s : Nat} (h : L[q]? = some s) : (nats L)[q]? = some (.int .i64 (s : Int)) := by simp [nats, ints, h]
theorem hs_set (σ : HS) (k : Nat) (x y : Option PM) (m m' : Nat → Nat → Option Thing) : ({ ({ σ with ps := σ.ps.set k x, M := m } : HS) with ps := (σ.ps.set k x).set k y, M := m' } : HS) = { σ with ps := σ.ps.set k y, M := m' } := by
  simp
set_option maxRecDepth 100000 in
set_option maxHeartbeats 2000000 in
theorem sweep_some (B : HB) (ls : List (List Int)) (σ : HS) (k : Nat) (p : PM) (w : World) (h : HpAt w B ls σ) (hT : Tab w) (hp : σ.ps[k]? = some (some p)) :
    Calls Tryd.prog 41 #[.pointer (some ⟨B.b, 0, none⟩), .int .i64 k] w (Sw B ls σ k p w) := by
  have H := Lib.hid h
  have HG := Lib.hid (show Ar.get σ.ps (k : Int) = some p by rw [get_nat, hp]; rfl)
  have HP := Lib.hid hp
  have HA := Lib.hid (page_all (p := some p) (w := w) (fun q e => by cases e; exact (h.ar.page k p hp).1) hT)
  have hkl := (List.getElem?_eq_some_iff.1 hp).1
  have hk64 : k < 64 := by have := h.ar.hn; omega
  have HPN := Lib.hid (h.ar.page k p hp).1.hn
  obtain ⟨e0, e1, e2, e3, e4⟩ := h.five
  clear h hT hp
  go_enter Tryd.func41, Tryd.ntmps41
  go_wp2_with fail
  refine (none_any B ls σ _ H.out).mono ?_
  rintro e w1 ⟨rfl, rfl⟩
  dsimp only
  go_wp2_with fail
  refine (page_any _ _ _ _ _ _ _ H.out.ar).mono ?_
  rw [HG.out]
  rintro e w1 ⟨rfl, rfl⟩
  dsimp only [ptr]
  go_wp2_with fail
  refine HA.out.mono ?_
  obtain ⟨L, hL⟩ : ∃ L, Bit.bl p.U = L := ⟨_, rfl⟩
  have HLE := Lib.hid hL
  have HLN := Lib.hid (show L.length ≤ 32 by rw [← hL]; exact Bit.sl_len 32 p.U.testBit)
  have HND := Lib.hid (show L.Pairwise (· ≠ ·) by rw [← hL]; exact bl_nodup _)
  have HLA := Lib.hid (show ∀ q s : Nat, L[q]? = some s → p.U.testBit s = true ∧ s < 32 from fun q s e => bl_at (x := p.U) (by rw [hL]; exact e))
  dsimp only [lst]
  rw [hL]
  rintro e w1 ⟨a, c, rfl, ho, hb⟩
  have H1 := Lib.hid (H.out.call hb)
  have HB1 := Lib.hid hb
  have HO1 := Lib.hid ho
  have hl32 := HLN.out
  clear ho hb hL e0 e1 e2 e3 e4
  dsimp only
  go_wp2_with fail
  go_loopw [5, 20] (fun g i wr => ∃ (q : Nat) (pq : PM), q ≤ L.length ∧ i = .int .i64 (q : Int) ∧ g = .int .i64 (goneN σ.M k (L.take q) : Int) ∧ pq.b = p.b ∧ pq.c = p.c ∧ pq.n = p.n ∧
    HpAt wr B ls { σ with ps := σ.ps.set k (some pq), M := swM σ.M k (L.take q) } ∧ wr.ownsRow w.heap.size 3 1 (.slice a L.length c) L.length (nats L) ∧ Kept (fun i => i = p.b ∨ i = B.bm ∨ i = B.gp) w wr) (fun _ i _ => L.length - (intOf i).toNat)
  case atStart =>
    refine ⟨0, p, Nat.zero_le _, rfl, rfl, rfl, rfl, rfl, ?_, HO1.out, Kept.of_below HB1.out _⟩
    rw [List.take_zero, swM_nil, show σ.ps.set k (some p) = σ.ps by
      apply List.ext_getElem?
      intro i
      by_cases hi : k = i
      · subst hi; rw [List.getElem?_set_self hkl]; exact HP.out.symm
      · rw [List.getElem?_set_ne hi]]
    exact H1.out
  case round =>
    obtain ⟨q, pq, hq, rfl, rfl, hpb, hpc, hpn, hhp, how, hkp⟩ := hrel
    have H8 := Lib.hid hhp
    have HW8 := Lib.hid how
    have HK8 := Lib.hid hkp
    have HPB := Lib.hid hpb
    have HPC := Lib.hid hpc
    have HPQN := Lib.hid hpn
    have hgl := goneN_le σ.M k (L.take q)
    rw [List.length_take] at hgl
    obtain ⟨G, hG⟩ : ∃ G, goneN σ.M k (L.take q) = G := ⟨_, rfl⟩
    have HGN := Lib.hid hG
    rw [hG] at hgl ⊢
    clear hhp how hkp hpb hpc hpn hG H1 HO1
    obtain ⟨σq, hσq⟩ : ∃ σq : HS, ({ σ with ps := σ.ps.set k (some pq), M := swM σ.M k (L.take q) } : HS) = σq := ⟨_, rfl⟩
    rw [hσq] at H8
    have HSK := Lib.hid (show σq.ps[k]? = some (some pq) by rw [← hσq]; exact List.getElem?_set_self hkl)
    have HMQ := Lib.hid (show σq.M = swM σ.M k (L.take q) by rw [← hσq])
    have HSS := Lib.hid (show ∀ y m', ({ σq with ps := σq.ps.set k y, M := m' } : HS) = { σ with ps := σ.ps.set k y, M := m' } from fun y m' => by rw [← hσq]; exact hs_set σ k (some pq) y _ m')
    have HSM := Lib.hid (show ∀ m', ({ σq with M := m' } : HS) = { σ with ps := σ.ps.set k (some pq), M := m' } from fun m' => by rw [← hσq])
    clear hσq
    by_cases hlt : q < L.length
    · have hlt2 : (q : Int) < (L.length : Int) := by omega
      obtain ⟨s, hs⟩ : ∃ s, L[q]? = some s := ⟨_, List.getElem?_eq_getElem hlt⟩
      obtain ⟨hbit, hs32⟩ := HLA.out q s hs
      obtain ⟨t, ht⟩ : ∃ t, σ.M k s = some t := Option.isSome_iff_exists.1 ((H.out.inv k s).2 ⟨p, HP.out, hbit⟩)
      have hnot := nodup_take HND.out hs
      have HTQ := Lib.hid (show σq.M k s = some t by rw [HMQ.out, swM_out hnot]; exact ht)
      have HTM := Lib.hid ht
      have HTA := Lib.hid (show L.take (q + 1) = L.take q ++ [s] by rw [List.take_add_one, hs]; rfl)
      obtain ⟨rb, ro, hra, hrb, hrc⟩ := (Reads.of_own HW8.out).at_ (j := q) (nats_at hs)
      obtain ⟨t1, se, co⟩ := t
      have HSB := Lib.hid hbit
      clear hs hbit hnot ht
      subst hra
      go_wp2_with fail
      have H9 := Lib.hid (H8.out.call (fresh_alloc (Below.refl _ _) (.cells #[.int .i64 k, .int .i64 s] 138)))
      have HW9 := Lib.hid (HW8.out.alloc (.cells #[.int .i64 k, .int .i64 s] 138))
      have HK9 := Lib.hid (HK8.out.alloc (.cells #[.int .i64 k, .int .i64 s] 138))
      have HN9 := Lib.hid (Blk.new wr #[.int .i64 k, .int .i64 s] 138)
      have hwz : w.heap.size ≤ wr.heap.size := HK8.out.size
      clear H8 HW8 HK8 hrb hrc
      generalize wr.alloc (.cells #[.int .i64 k, .int .i64 s] 138) = W3 at *
      obtain ⟨bp, hbp⟩ : ∃ bp, wr.heap.size = bp := ⟨_, rfl⟩
      rw [hbp] at HN9 hwz ⊢
      clear hbp
      obtain ⟨d0, d1, -, -⟩ := HN9.out.two
      obtain ⟨e0, e1, e2, e3, e4⟩ := H9.out.five
      have l0 := H9.out.blk.lt
      have l1 := HN9.out.lt
      have hs64 : s < 64 := by omega
      go_upto_region 8 with (fail)
      go_cut [9] from 27 to 32 (fun x wx => ∃ bt, x = .pointer (some ⟨bt, 0, none⟩) ∧ W3.heap.size ≤ bt ∧ Blk wx bt #[.int .i64 t1, .int .i64 se, .int .i64 co] 136 ∧ Below W3.heap.size W3 wx)
      case first =>
        have hl1 := look_ext H9.out.mp hk64 hs32 HTQ.out ⟨W3.drew, (Below.refl _ _).drew⟩
        have hl2 := look_ext H9.out.mp hk64 hs32 HTQ.out ⟨(W3.alloc (.cells #[.int .i64 0, .int .i64 0, .int .i64 0] 136)).drew, (fresh_alloc (Below.refl _ _) _).drew⟩
        dsimp only at hl1 hl2
        go_region_with (fail)
        all_goals
          go_wp2_with fail
          go_meet
          exact ⟨W3.heap.size, rfl, Nat.le_refl _, Blk.new W3 _ _, (fresh_alloc (Below.refl _ _) _).drew⟩
      case rest =>
        obtain ⟨bt, rfl, hbt, hbl, hbe⟩ := hcut
        obtain ⟨w4, rfl⟩ : ∃ w4 : World, w4 = wc := ⟨_, rfl⟩
        have H4 := Lib.hid (H9.out.call hbe)
        have HW4 := Lib.hid (own_block HW9.out fun m e => hbe.block m (HW9.out.lt m e).2)
        have HK4 := Lib.hid (HK9.out.step (Kept.of_below hbe (fun i => i = p.b ∨ i = B.bm ∨ i = B.gp)) (fun _ _ e => e))
        have HN4 := Lib.hid (HN9.out.call hbe)
        have HT4 := Lib.hid hbl
        have hbpt : bp < bt := by omega
        have l2 := hbl.lt
        obtain ⟨t0, t1', t2, tf0, tf1, tf2⟩ := hbl.three
        have HFB := Lib.hid (show ∀ i, HFoot B σq i ∨ i < B.z → i ≠ bt from fun i hi e => by
          rcases hi with hi | hi
          · have := H9.out.lt hi; omega
          · have := H9.out.z_lt; omega)
        clear hbl hbe d0 d1 e0 e1 e2 e3 e4 H9 HW9 HK9 HN9 l0 l1
        by_cases hco : co = 0
        · subst hco
          go_wp2_with fail
          go_upto_region 10 with (fail)
          obtain ⟨e0, e1, e2, e3, e4⟩ := H4.out.five
          have hpq : s < pq.n ∧ pq.U.testBit s = true := by
            obtain ⟨p', hp', hb'⟩ := (H4.out.inv k s).1 (by rw [HTQ.out]; rfl)
            rw [HSK.out] at hp'
            have hp' := Option.some.inj (Option.some.inj hp')
            subst hp'
            exact ⟨(H4.out.ar.page k pq HSK.out).1.inU s hb', hb'⟩
          obtain ⟨z, hz⟩ : ∃ z : Nat, Cls.csz pq.c = (z : Int) := ⟨(Cls.csz pq.c).toNat, by have := (Cls.csz_bd pq.c).1; omega⟩
          obtain ⟨g1, g2, g3, g4, g5, g6, g7⟩ := slot_at H4.out.ar HSK.out hpq.1 hpq.2 hz
          have g8 := add_zero_nat _ ▸ g7 0 g5
          have hA1 : ((1048576 + 32 * k + s * z : Nat) : Int) ≤ 9223372036854775807 := by have := H4.out.ar.hw; have := H4.out.ar.hn; omega
          obtain ⟨A, hA⟩ : ∃ A : Int, ((1048576 + 32 * k + s * z : Nat) : Int) = A := ⟨_, rfl⟩
          rw [hA] at g1 g8 hA1
          have HBA := Lib.hid g1
          have HSL := Lib.hid g8
          have HFR := Lib.hid (fun n : Nat => free_yes _ _ _ _ _ A k pq s _ (H4.out.drewN n).ar hA1 g8 g1)
          clear g1 g2 g3 g4 g5 g6 g7 g8 hA hz hpq
          go_cut [47] from 36 to 47 (fun _ wx => HpMem wx B ls { σq with ps := σq.ps.set k (some ⟨pq.b, pq.c, pq.n, del pq.U s, del pq.M s⟩) } ∧ Kept (fun i => i = pq.b) w4 wx)
          case first =>
            have HD4 := Lib.hid (show HpAt w4.drew B ls σq from H4.out.drewN 1)
            go_region_with (first
              | (go_at_call 34; refine (base_any _ _ _ _ _ _ _ _ HD4.out.ar).mono ?_; rw [HBA.out]; rintro e wb ⟨rfl, d, rfl⟩; dsimp only)
              | (go_at_call 22; refine (HFR.out (1 + d)).mono ?_; rintro e wf ⟨rfl, ha, hk⟩; have HAF := Lib.hid ha; have HKF := Lib.hid hk; clear ha hk; dsimp only))
            all_goals
              go_wp2_with fail
              go_meet
              have HE := Lib.hid (H4.out.drewN (1 + d))
              refine ⟨{ HE.out.toHpMem.arena HAF.out HKF.out (fun i hi => .inl (.inr (.inr (.inr ⟨k, pq, HSK.out, hi.symm⟩)))) (fun i hi => by
                rcases foot_set_of hi with e | ⟨x, e, e'⟩
                · exact .inl e
                · have e := Option.some.inj e
                  subst e
                  exact .inl (.inr (.inr (.inr ⟨k, pq, HSK.out, e'⟩)))) with }, ((Kept.refl (fun i => i = pq.b) w4).drewN (1 + d)).step HKF.out (fun _ _ e => e)⟩
          case rest =>
            obtain ⟨hm5, hk5⟩ := hcut
            have HM5 := Lib.hid hm5
            have HGI := Lib.hid (gone_inv H4.out HSK.out hs32)
            have HNB := Lib.hid (show bp ≠ pq.b from fun e => blk_ne HN4.out (H4.out.ar.page k pq HSK.out).1.blk (by decide) e)
            have HN5 := Lib.hid (hk5.blk HN4.out HNB.out)
            have HW5 := Lib.hid (hk5.own HW4.out (fun m e e' => by
              have := (HW4.out.lt m e).1
              have h1 := H.out.lt (.inr (.inr (.inr (.inr (.inr ⟨k, p, HP.out, rfl⟩)))))
              have := HPB.out
              omega))
            have HK5 := Lib.hid (HK4.out.step hk5 (fun i _ e => .inl (e.trans HPB.out)))
            clear hm5 hk5 H4 HN4 HW4 HK4 e0 e1 e2 e3 e4 hA1 HFR HBA HSL
            go_wp2_with fail
            obtain ⟨e0, e1, e2, e3, e4⟩ := HM5.out.five
            obtain ⟨d0, d1, -, -⟩ := HN5.out.two
            go_still_tail 5, (by kernel_rfl)
            change wpList _ _ _ _ _ wc.drew
            have HM6 := Lib.hid (HM5.out.drewN 1)
            have HW6 := Lib.hid (show wc.drew.ownsRow w.heap.size 3 1 (.slice (some ⟨rb, ro, none⟩) L.length c) L.length (nats L) from HW5.out)
            have HK6 := Lib.hid (HK5.out.drewN 1)
            have hW6 : wc.drewN 1 = wc.drew := rfl
            rw [hW6] at HM6 HK6
            clear hW6 HM5 HW5 HK5 HN5 e0 e1 e2 e3 e4 d0 d1
            generalize wc.drew = W6 at *
            go_wp2_with (first
              | (at_delete; refine wpList_del rfl _ _ rfl (k := k) (s := s) rfl rfl HM6.out.mp hk64 hs32 ?_; intro w7 hm7 hg7)
              | fail)
            have hat7 : HpAt w7 B ls { σ with ps := σ.ps.set k (some ⟨pq.b, pq.c, pq.n, del pq.U s, del pq.M s⟩), M := swM σ.M k (L.take (q + 1)) } := by
              rw [HTA.out, ← swM_white HTM.out rfl, ← HMQ.out, ← HSS.out]
              exact ⟨HM6.out.mapped hm7 hg7, HGI.out.1, HGI.out.2⟩
            have HAT7 := Lib.hid hat7
            have HG7 := Lib.hid hg7
            clear hat7 hm7 hg7
            go_roundw
            case rel => exact ⟨q + 1, ⟨pq.b, pq.c, pq.n, del pq.U s, del pq.M s⟩, by omega, by go_num, by rw [HTA.out, goneN_white HTM.out rfl, HGN.out]; go_num, HPB.out, HPC.out, HPQN.out, HAT7.out, own_block HW6.out (fun m e => HG7.out.block m (HW6.out.lt m e).2 (fun e' => by have := (HW6.out.lt m e).1; have := H.out.lt (.inr (.inl rfl)); have := Option.some.inj e'; omega)), HK6.out.step (Kept.of_grown HG7.out) (fun i _ e => .inr (.inl (Option.some.inj e)))⟩
            case measure => simp [intOf]; omega
        · have hcx : (co == 0) = false := by simpa using hco
          have HCO := Lib.hid hco
          clear hco
          go_wp2_with fail
          have h5b := Blk.of_eq (HT4.out.set 2 (.int .i64 0)) (cs' := #[.int .i64 t1, .int .i64 se, .int .i64 0]) rfl
          have hk5 : ∀ i, i ≠ bt → (w4.setCell ⟨bt, 2, none⟩ (.int .i64 0)).heap[i]? = w4.heap[i]? := fun i hi => Below.heap_setCell w4 ⟨bt, 2, none⟩ _ i (by simpa using hi)
          have HN5 := Lib.hid (show Blk (w4.setCell ⟨bt, 2, none⟩ (.int .i64 0)) bp #[.int .i64 k, .int .i64 s] 138 from (hk5 bp (by omega)).trans HN4.out)
          have HT5 := Lib.hid h5b
          have H5 := Lib.hid (H4.out.keep (w' := w4.setCell ⟨bt, 2, none⟩ (.int .i64 0)) (fun i hi => hk5 i (HFB.out i hi)))
          have HNE := Lib.hid (own_ne HW4.out HT4.out (by decide))
          have HW5 := Lib.hid (own_block HW4.out fun m e => hk5 m (fun e' => HNE.out (by rw [e, e'])))
          have HK5 := Lib.hid (HK4.out.set (p := ⟨bt, 2, none⟩) (.inr (by show w.heap.size ≤ bt; omega)) (.int .i64 0))
          clear h5b hk5 H4 HN4 HT4 HW4 HK4 t0 t1' t2 tf0 tf1 tf2 l2
          generalize w4.setCell ⟨bt, 2, none⟩ (.int .i64 0) = W5 at *
          obtain ⟨d0, d1, -, -⟩ := HN5.out.two
          obtain ⟨t0, t1', t2, -, -, -⟩ := HT5.out.three
          obtain ⟨e0, e1, e2, e3, e4⟩ := H5.out.five
          go_still_tail 6, (by kernel_rfl)
          change wpList _ _ _ _ _ W5.drew
          have H6 := Lib.hid (H5.out.drewN 1)
          have HW6 := Lib.hid (show W5.drew.ownsRow w.heap.size 3 1 (.slice (some ⟨rb, ro, none⟩) L.length c) L.length (nats L) from HW5.out)
          have HK6 := Lib.hid (HK5.out.drewN 1)
          have hW6 : W5.drewN 1 = W5.drew := rfl
          rw [hW6] at H6 HK6
          clear hW6 H5 HW5 HK5 HN5 HT5 e0 e1 e2 e3 e4 d0 d1 t0 t1' t2
          generalize W5.drew = W6 at *
          go_wp2_with (first
            | (at_mapUpdate; refine wpList_put rfl _ _ _ rfl (k := k) (s := s) (t1, se, 0) rfl rfl rfl H6.out.mp hk64 hs32 ?_; intro w7 hm7 hg7)
            | fail)
          have hinv := turn_inv H6.out HTQ.out (u := (t1, se, 0)) rfl
          have hat7 : HpAt w7 B ls { σ with ps := σ.ps.set k (some pq), M := swM σ.M k (L.take (q + 1)) } := by
            rw [HTA.out, ← swM_black HTM.out HCO.out, ← HMQ.out, ← HSM.out]
            exact H6.out.mapped hm7 hg7 hinv.1 hinv.2
          have HAT7 := Lib.hid hat7
          have HG7 := Lib.hid hg7
          clear hat7 hm7 hg7 hinv
          go_roundw
          case rel => exact ⟨q + 1, pq, by omega, by go_num, by rw [HTA.out, goneN_black HTM.out HCO.out, HGN.out], HPB.out, HPC.out, HPQN.out, HAT7.out, own_block HW6.out (fun m e => HG7.out.block m (HW6.out.lt m e).2 (fun e' => by have := (HW6.out.lt m e).1; have := H.out.lt (.inr (.inl rfl)); have := Option.some.inj e'; omega)), HK6.out.step (Kept.of_grown HG7.out) (fun i _ e => .inr (.inl (Option.some.inj e)))⟩
          case measure => simp [intOf]; omega
    · obtain rfl : q = L.length := by omega
      have hlt2 : ¬ (L.length : Int) < (L.length : Int) := by omega
      have HTK := Lib.hid (List.take_length (l := L))
      obtain ⟨e0, e1, e2, e3, e4⟩ := H8.out.five
      have hget : Ar.get σq.ps (k : Int) = some pq := by rw [get_nat, HSK.out]; rfl
      have HGQ := Lib.hid hget
      have HGL := Lib.hid (show goneN σ.M k (Bit.bl p.U) = G by rw [HLE.out, ← HTK.out]; exact HGN.out)
      have HML := Lib.hid (show σq.M = swM σ.M k (Bit.bl p.U) by rw [HLE.out, HMQ.out, HTK.out])
      clear hget
      by_cases hu : (Bit.bl pq.U).length = 0
      · have HU := Lib.hid hu
        clear hu
        go_wp2_with fail
        refine (drop_yes _ _ _ _ _ k pq _ H8.out.ar HSK.out HU.out).mono ?_
        rintro e w2 ⟨rfl, ha, hk⟩
        have HAF := Lib.hid ha
        have HKF := Lib.hid hk
        clear ha hk e0 e1 e2 e3 e4
        dsimp only
        go_wp2_with fail
        go_ret
        have hnoM : ∀ s, σq.M k s = none := by
          intro s
          cases hm : σq.M k s with
          | none => rfl
          | some t =>
            obtain ⟨p', hp', hb'⟩ := (H8.out.inv k s).1 (by rw [hm]; rfl)
            rw [HSK.out] at hp'
            have hp' := Option.some.inj (Option.some.inj hp')
            subst hp'
            have hs := (H8.out.ar.page k pq HSK.out).1
            have := Bit.sl_mem (n := 32) (i := s) (p := pq.U.testBit)
            have hmem := this.2 ⟨by have := hs.inU s hb'; have := hs.hn; omega, hb'⟩
            have := List.length_pos_of_mem hmem
            have := HU.out
            unfold Bit.bl at this
            omega
        refine ⟨none, by rw [HGL.out]; rfl, ?_, HK8.out.step HKF.out (fun i _ e => .inr (.inr e)), .inl ⟨rfl, fun s => by rw [← HML.out]; exact hnoM s⟩⟩
        rw [← HML.out, ← HSS.out]
        refine H8.out.arena HAF.out HKF.out (fun i hi => .inl (.inr (.inl hi))) (fun i hi => by
          rcases foot_set_of hi with e | ⟨x, e, e'⟩
          · exact .inl e
          · cases e) (fun i j => ?_) (fun i j t x ht hx => ?_)
        · rw [H8.out.inv i j]
          by_cases hi : i = k
          · subst hi
            constructor
            · rintro ⟨x, hx, hb⟩
              have := (H8.out.inv i j).2 ⟨x, hx, hb⟩
              rw [hnoM j] at this
              cases this
            · rintro ⟨x, hx, hb⟩
              rcases set_some hx with ⟨_, e, _⟩ | ⟨e, _⟩
              · cases e
              · exact absurd rfl e
          · rw [List.getElem?_set_ne (fun e => hi e.symm)]
        · rcases set_some hx with ⟨_, e, _⟩ | ⟨_, e⟩
          · cases e
          · exact H8.out.fit i j t x ht e
      · have HU := Lib.hid hu
        clear hu
        go_wp2_with fail
        refine (drop_no _ _ _ _ _ (k : Int) _ H8.out.ar (fun p' hp' => by rw [HGQ.out] at hp'; have hp' := Option.some.inj hp'; subst hp'; have := HU.out; omega)).mono ?_
        rintro e w2 ⟨rfl, d, rfl⟩
        clear e0 e1 e2 e3 e4
        dsimp only
        go_wp2_with fail
        go_ret
        obtain ⟨s, hs⟩ : ∃ s, s ∈ Bit.bl pq.U := by
          rcases hb : Bit.bl pq.U with _ | ⟨s, r⟩
          · have := HU.out; rw [hb] at this; exact absurd rfl this
          · exact ⟨s, by simp⟩
        have hs' := Bit.sl_mem.1 hs
        refine ⟨some pq, by rw [HGL.out]; rfl, ?_, HK8.out.drewN d, .inr ⟨pq, rfl, HPB.out, HPC.out, HPQN.out, s, ?_⟩⟩
        · rw [← HML.out, ← HSM.out]
          exact H8.out.drewN d
        · rw [← HML.out]
          exact (H8.out.inv k s).2 ⟨pq, HSK.out, hs'.2⟩
end Go.Proofs.YtoajbjeiplolnaaDoorR.Hp
