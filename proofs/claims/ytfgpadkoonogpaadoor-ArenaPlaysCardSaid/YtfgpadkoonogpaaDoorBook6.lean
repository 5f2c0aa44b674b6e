/- Package besombook: the contract of putInts. -/
import Derived.Test.YtfgpadkoonogpaaDoorBook5
namespace Go.Proofs.YtfgpadkoonogpaaDoor.Book
open Go.RowKit
set_option linter.unusedSimpArgs false
set_option linter.unusedVariables false

theorem mk_here {ks : List KL} {k : Nat} {p : KL} (h : (mk ks k)[k]? = some p) : ks[k]? = some p := by
  rw [mk_at] at h
  simpa using h
theorem mk_start {ks : List KL} {k : Nat} {v : Value} {xs : List Int} (h : (mk ks k)[k]? = some (v, xs)) : (mk ks k).set k (v, part k 0 xs) = mk ks k := by
  rw [part_zero]
  apply List.ext_getElem?
  intro j
  rw [List.getElem?_set]
  by_cases hj : k = j
  · subst hj
    rw [if_pos rfl, if_pos (List.getElem?_eq_some_iff.1 h).1, h]
  · simp [hj]
theorem mk_succ {ks : List KL} {k : Nat} {v : Value} {xs : List Int} (h : ks[k]? = some (v, xs)) : (mk ks k).set k (v, part k xs.length xs) = mk ks (k + 1) := by
  rw [part_all]
  have hk := (List.getElem?_eq_some_iff.1 h).1
  apply List.ext_getElem?
  intro j
  rw [List.getElem?_set, mk_at, mk_at]
  by_cases hj : k = j
  · subst hj
    rw [if_pos rfl, if_pos (by rw [mk_length]; exact hk), h]
    simp
  · rw [if_neg hj]
    congr 1
    funext p
    by_cases h1 : j < k
    · rw [if_pos h1, if_pos (by omega)]
    · rw [if_neg h1, if_neg (by omega)]
theorem marks0_any (i n : Nat) (w : World) (hi : i ≤ 1000) (hn : n ≤ 1000000) : Calls Tryd.prog 95 #[.int .i64 i, .int .i64 0, .int .i64 n] w (Copies (marks i 0 n) w) := marks_any i 0 n w hi (by omega) hn
theorem marks_get (i n j : Nat) (h : j < n) : (marks i 0 n)[j]? = some (-1000000 * (i : Int) - ((0 : Int) + (j : Int)) - 7) := by
  simp [marks, h]
theorem own_some {w : World} {B e size n c : Nat} {A : Option Addr} {xs : List Value} (h : w.ownsRow B e size (.slice A n c) n xs) (hn : 0 < n) : ∃ g, A = some ⟨g, 0, none⟩ ∧ B ≤ g ∧ g < w.heap.size := by
  rcases h.2 with ⟨_, h2⟩ | ⟨g, cap, cur, hv, hb, hh, _⟩
  · omega
  · injection hv with h1 _ h3
    exact ⟨g, h1, hb, (Array.getElem?_eq_some_iff.1 hh).1⟩
set_option maxRecDepth 100000 in
set_option maxHeartbeats 2000000 in
theorem put_any (w : World) (S : Nat → Prop) (base b : Nat) (ks : List KL) (vI vW : Value) (h : BK w S base b ks vI vW) :
    Calls Tryd.prog 58 #[.pointer (some ⟨b, 0, none⟩)] w fun e w' => e = .returned (.tuple #[]) ∧ BK w' S base b (mk ks ks.length) vI vW ∧ Kept S w w' := by
  obtain ⟨aI, cI, rfl⟩ := slice_form h.oI
  have hl : (ks.length : Int) ≤ 250 := by have := h.few; omega
  have c0 := h.blk.cell 0
  simp at c0
  have H := Lib.hid h
  clear h
  go_enter Tryd.func58, Tryd.ntmps58
  go_wp2_with fail
  go_loopw [2, 3, 4] (fun i _ _ wr => ∃ k : Nat, k ≤ ks.length ∧ i = .int .i64 k ∧ BK wr S base b (mk ks k) (.slice aI ks.length cI) vW ∧ Kept S w wr) (fun i _ _ _ => ks.length - (intOf i).toNat)
  case atStart => exact ⟨0, Nat.zero_le _, rfl, by rw [mk_zero]; exact H.out, Kept.refl _ _⟩
  case round =>
    obtain ⟨k, hk, rfl, hbk, hkp⟩ := hrel
    clear c0
    have c0 := hbk.blk.cell 0
    simp at c0
    have H1 := Lib.hid hbk
    have HK := Lib.hid hkp
    clear hbk hkp H
    have hz := HK.out.size
    by_cases hlt : k < ks.length
    · have hkn : (k : Int) < (ks.length : Int) := by omega
      have hk0 : (0 : Int) ≤ (k : Int) := by omega
      obtain ⟨gr, A, cc, xs, rfl, hgr, hcr, hxr, hor, hx⟩ := row_at H1.out.li (by rw [mk_length]; exact H1.out.oI |> fun h => by rwa [mk_length] at h) (n := ks.length) (by rw [mk_length]) (k := k) (by rw [mk_length]; exact hlt)
      have hx2 : (xs.length : Int) ≤ 99000 := by omega
      have HX := Lib.hid hxr
      have HO := Lib.hid hor
      clear hxr hor
      go_wp2_with fail
      refine (marks0_any k xs.length _ (by omega) (by omega)).mono ?_
      rintro e w1 ⟨a1, c1, rfl, ho1, hb1⟩
      rw [marks_length] at ho1
      have H2 := Lib.hid (H1.out.call hb1)
      have HK2 := Lib.hid (HK.out.step (Kept.of_below hb1 S) (fun _ _ h => h))
      have HM := Lib.hid ho1
      have hz1 := hb1.size
      clear ho1 hb1 c0 hcr
      have c0 := H2.out.blk.cell 0
      simp at c0
      rw [marks_length]
      dsimp only
      go_wp2_with fail
      obtain ⟨wo, rfl⟩ : ∃ wo : World, wo = wr := ⟨_, rfl⟩
      go_loopw [4] (fun j wx => ∃ j' : Nat, j' ≤ xs.length ∧ j = .int .i64 j' ∧ BK wx S base b ((mk ks k).set k (.slice A xs.length cc, part k j' xs)) (.slice (some ⟨gr, 0, none⟩) ks.length cI) vW ∧ Kept S w wx ∧ wx.ownsRow wo.heap.size 3 1 (.slice a1 xs.length c1) xs.length ((marks k 0 xs.length).map (.int .i64))) (fun j _ => xs.length - (intOf j).toNat)
      case atStart => exact ⟨0, Nat.zero_le _, rfl, by rw [mk_start HX.out]; exact H2.out, HK2.out, HM.out⟩
      case round =>
        obtain ⟨j, hj, rfl, hbj, hkj, hmj⟩ := hrel
        clear c0 H2 HK2 HM
        have c0 := hbj.blk.cell 0
        simp at c0
        have H3 := Lib.hid hbj
        have HK3 := Lib.hid hkj
        have HM := Lib.hid hmj
        clear hbj hkj hmj
        have hz3 := HK3.out.size
        by_cases hjl : j < xs.length
        · have hjn : (j : Int) < (xs.length : Int) := by omega
          have hj0 : (0 : Int) ≤ (j : Int) := by omega
          obtain ⟨gr', A', cc', ys, hg', hgr', hcr', hxr', hor', hx'⟩ := row_at H3.out.li (n := ks.length) (by have := H3.out.oI; rwa [List.length_set, mk_length] at this ⊢) (by rw [List.length_set, mk_length]) (k := k) (by rw [List.length_set, mk_length]; exact hlt)
          have hpl := part_length k j xs (by omega)
          rw [List.getElem?_set, if_pos rfl, if_pos (by rw [mk_length]; exact hlt)] at hxr'
          injection hxr' with e1
          injection e1 with e1 e2
          subst e2
          injection e1 with e3 e4 e5
          subst e3 e5
          clear e4
          injection hg' with hg'
          injection hg' with hg'
          subst hg'
          rw [hpl] at hcr' hor'
          obtain ⟨ga, rfl, hga1, hga2⟩ := own_some hor' (by omega)
          obtain ⟨gm, rfl, hgm1, hgm2⟩ := own_some HM.out (by omega)
          have hga3 : ga < wo.heap.size := (HO.out.lt ga rfl).2
          obtain ⟨ct1, ct2⟩ := own_at hor' (j := j) (u := .int .i64 ((part k j xs)[j]'(by omega))) (by rw [List.getElem?_map, List.getElem?_eq_getElem (by omega)]; rfl)
          obtain ⟨cm1, cm2⟩ := own_at HM.out (j := j) (u := .int .i64 (-1000000 * (k : Int) - ((0 : Int) + (j : Int)) - 7)) (by rw [List.getElem?_map, marks_get _ _ _ hjl]; rfl)
          generalize (part k j xs)[j]'(by omega) = old at ct1
          have H5 := Lib.hid (show BK wr.drew S base b _ _ vW from H3.out.call (Below.refl _ _).drew)
          have HK5 := Lib.hid (show Kept S w wr.drew from HK3.out.drew)
          have HM5 := Lib.hid (show wr.drew.ownsRow wo.heap.size 3 1 _ _ _ from HM.out)
          have c0' : wr.drew.cell? ⟨b, 0, none⟩ = some (.slice (some ⟨gr, 0, none⟩) ks.length cI) := c0
          have hcr5 : wr.drew.cell? ⟨gr, k, none⟩ = some (.slice (some ⟨ga, 0, none⟩) xs.length cc) := hcr'
          have ct5 : wr.drew.cell? ⟨ga, j, none⟩ = some (.int .i64 old) := ct1
          have ct6 : wr.drew.frozen? ⟨ga, j, none⟩ = false := ct2
          have cm5 : wr.drew.cell? ⟨gm, j, none⟩ = some (.int .i64 (-1000000 * (k : Int) - ((0 : Int) + (j : Int)) - 7)) := cm1
          have HPL := Lib.hid hpl
          clear hor' HM hpl ct2 cm2
          generalize hy : -1000000 * (k : Int) - ((0 : Int) + (j : Int)) - 7 = y at *
          have HY := Lib.hid hy
          clear hy
          go_wp2_with fail
          go_still_tail 13, (by kernel_rfl)
          change wpList _ _ _ _ _ wr.drew
          generalize wr.drew = w5 at *
          have HN := Lib.hid (show BK (w5.setCell ⟨ga, j, none⟩ (.int .i64 y)) S base b ((mk ks k).set k (.slice (some ⟨ga, 0, none⟩) xs.length cc, part k (j + 1) xs)) (.slice (some ⟨gr, 0, none⟩) ks.length cI) vW from by
            have h1 := H5.out.setList (i := k) (j := j) (g := ga) (c := cc) (xs := part k j xs) (by rw [List.getElem?_set, if_pos rfl, if_pos (by rw [mk_length]; exact hlt), HPL.out]) (by rw [HPL.out]; exact hjl) y
            rw [HPL.out, List.set_set, ← HY.out, part_set _ _ _ hjl] at h1
            rw [← HY.out]
            exact h1)
          have HKN := Lib.hid (HK5.out.set (p := ⟨ga, j, none⟩) (.inl ((H1.out.li _ (List.mem_of_getElem? HX.out)).2.2 ga rfl)) (.int .i64 y))
          have HMN := Lib.hid (own_block (w' := w5.setCell ⟨ga, j, none⟩ (.int .i64 y)) HM5.out fun q e => Below.heap_setCell w5 ⟨ga, j, none⟩ _ q (fun e2 => by subst e2; have := (HM5.out.lt _ e).1; omega))
          clear c0 hcr' ct1 cm1 H3 HK3
          go_wp2_with fail
          go_roundw
          case rel => exact ⟨j + 1, by omega, by go_num, HN.out, HKN.out, HMN.out⟩
          case measure => simp [intOf]; omega
        · obtain rfl : j = xs.length := by omega
          have hjj : ¬ (xs.length : Int) < (xs.length : Int) := by omega
          have HE := Lib.hid (mk_succ (mk_here HX.out))
          go_wp2_with fail
          go_roundw
          case rel => exact ⟨k + 1, by omega, by go_num, by rw [← HE.out]; exact H3.out, HK3.out⟩
          case measure => simp [intOf]; omega
    · obtain rfl : k = ks.length := by omega
      have hkk : ¬ (ks.length : Int) < (ks.length : Int) := by omega
      go_wp2_with fail
      go_end0
      exact ⟨rfl, H1.out, HK.out⟩
end Go.Proofs.YtfgpadkoonogpaaDoor.Book
