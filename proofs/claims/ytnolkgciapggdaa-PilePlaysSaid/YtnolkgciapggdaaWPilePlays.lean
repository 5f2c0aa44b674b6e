/- The walk of besomlaw8.PilePlays: it returns true, and writes nothing that was there. -/
import Derived.Test.YtnolkgciapggdaaPile2
import Derived.Test.YtnolkgciapggdaaApp2
import Derived.Test.YtnolkgciapggdaaArgs
import Derived.Deep.CutBlock
import Derived.Deep.CutRange
import Derived.Deep.RegionLaw
namespace Go.Proofs.Ytnolkgciapggdaa.PilePlays
open Go.RowKit Pil Book
set_option linter.unusedSimpArgs false
set_option linter.unusedVariables false

/-- The pile, the list beside it. -/
structure PR (w0 wr : World) (room : Nat) (l : List Int) (lost : Bool) (v : Value) (aH : Option Addr) (cH : Nat) : Prop where
  p : PileAt wr w0.heap.size w0.heap.size room l lost v
  few : l.length ≤ room
  h : wr.ownsRow w0.heap.size 3 1 (.slice aH l.length cH) l.length (l.map (.int .i64))
  bel : Below w0.heap.size w0 wr
namespace PR
variable {w0 wr w' : World} {room : Nat} {l : List Int} {lost : Bool} {v : Value} {aH : Option Addr} {cH : Nat}
theorem call (h : PR w0 wr room l lost v aH cH) (hb : Below wr.heap.size wr w') : PR w0 w' room l lost v aH cH :=
  ⟨h.p.below hb, h.few, own_block h.h fun k e => hb.block k (h.h.lt k e).2, fresh_call h.bel hb⟩
theorem drewN (h : PR w0 wr room l lost v aH cH) (k : Nat) : PR w0 (wr.drewN k) room l lost v aH cH := h.call (below_drewN (Below.refl _ _) k)
/-- The list's row is none of the pile's blocks. -/
theorem apart (h : PR w0 wr room l lost v aH cH) : ∀ k, (Value.slice aH l.length cH).ownBlock = some k → ¬ own w0.heap.size v k := by
  rintro k hk (rfl | hv)
  · exact own_ne h.h h.p.1 (by decide) hk.symm
  · exact own_own_ne h.h h.p.2.1 (by decide) k hk hv
/-- The pile has turned. -/
theorem pile (h : PR w0 wr room l lost v aH cH) (hk : Kept (own w0.heap.size v) wr w') : w'.ownsRow w0.heap.size 3 1 (.slice aH l.length cH) l.length (l.map (.int .i64)) ∧ Below w0.heap.size w0 w' :=
  ⟨hk.own h.h h.apart, h.bel.trans (kept_below h.p hk)⟩
end PR
theorem rd_take {w : World} {B n c : Nat} {A : Option Addr} {xs : List Value} (h : Reads w B 1 A n c xs) {q : Nat} (hq : q ≤ n) : Reads w B 1 A q c (xs.take q) := by
  refine ⟨Nat.le_trans hq h.1, h.2.1, by have := h.2.2.1; rw [List.length_take]; omega, fun h0 => ?_⟩
  obtain ⟨b, off, e, hb, hc⟩ := h.2.2.2 (by omega)
  refine ⟨b, off, e, hb, fun j u hu => hc j u ?_⟩
  rw [List.getElem?_take] at hu
  split at hu
  · exact hu
  · cases hu
set_option maxRecDepth 100000 in
theorem early (r : Int) (A : Option Addr) (n c : Nat) (w : World) (h : 80 < n) :
    Calls Try.prog 12 #[.int .i64 r, .slice A n c] w fun e w' => e = .returned (.bool true) ∧ Below w.heap.size w w' := by
  have h1 : (80 : Int) < (n : Int) := by omega
  clear h
  go_enter Try.func12, Try.ntmps12
  go_wp2_with fail
  refine (alive _).mono ?_
  rintro e w1 ⟨rfl, hb1⟩
  dsimp only
  go_wp2_with fail
  go_ret
  exact ⟨rfl, hb1⟩
set_option maxRecDepth 100000 in
set_option maxHeartbeats 8000000 in
theorem core (r : Int) (A : Option Addr) (m c : Nat) (ops : List (Value × Value)) (w : World) (hl : ops.length = m)
    (wl : ∀ q ∈ ops, (∃ z, q.1 = .int .i64 z ∧ (Lit.int .i64 z).wf = true) ∧ (∃ (A : Option Addr) (n c : Nat) (zs : List Int), q.2 = .slice A n c ∧ zs.length = n ∧ (∀ z ∈ zs, (Lit.int .i64 z).wf = true) ∧ Reads w w.heap.size 1 A n c (zs.map (.int .i64))))
    (hR : Reads w w.heap.size 2 A m c (pairCells ops)) (hm : m ≤ 80) (room : Nat) (hroom : (min (max r 1) 1000).toNat = room) :
    Calls Try.prog 12 #[.int .i64 r, .slice A m c] w fun e w' => e = .returned (.bool true) ∧ Below w.heap.size w w' := by
  have HR := Lib.hid hR
  have HL := Lib.hid hl
  have WL := Lib.hid wl
  have m1 : (m : Int) ≤ 80 := by omega
  have r1 : 1 ≤ room := by omega
  have r2 : room ≤ 1000 := by omega
  clear hR wl hl
  go_enter Try.func12, Try.ntmps12
  go_wp2_with fail
  refine (alive _).mono ?_
  rintro e w1 ⟨rfl, hb1⟩
  have HB1 := Lib.hid hb1
  clear hb1
  dsimp only
  go_wp2_with fail
  refine (new_any r _).mono ?_
  rw [hroom]
  rintro e w2 ⟨rfl, hp, hb2⟩
  have H2 := Lib.hid (show PR w1 w2 room [] false (.slice none 0 0) none 0 from ⟨hp, by simp, World.ownsRow_nil _ _ _ _, hb2⟩)
  clear hp hb2
  dsimp only
  go_upto_region 6 with (fail)
  go_cut [0] from 29 to 31 (fun p wx => p = .int .i64 (room : Int) ∧ wx = w2)
  case first =>
    by_cases hr0 : r < 1
    · have HE := Lib.hid (show (1 : Int) = (room : Int) by omega)
      clear hroom r1 r2
      go_wp2_with fail
      go_meet
      exact ⟨by rw [← HE.out], rfl⟩
    · by_cases hr1 : 1000 < r
      · have HE := Lib.hid (show (1000 : Int) = (room : Int) by omega)
        have hr2 : 1 ≤ r := by omega
        clear hroom r1 r2 hr0
        go_wp2_with fail
        go_meet
        exact ⟨by rw [← HE.out], rfl⟩
      · have HE := Lib.hid (show r = (room : Int) by omega)
        have hr2 : 1 ≤ r := by omega
        have hr3 : r ≤ 1000 := by omega
        clear hroom r1 r2 hr0 hr1
        go_wp2_with fail
        go_meet
        exact ⟨by rw [← HE.out], rfl⟩
  case rest =>
    obtain ⟨rfl, rfl⟩ := hcut
    clear hroom
    obtain ⟨w0, rfl⟩ : ∃ w0 : World, w0 = w1 := ⟨_, rfl⟩
    have HI := Lib.hid (info_parts Book.infoI)
    go_wp2_with fail
    go_loopw [6, 7, 8] (fun hv lo i wr => ∃ (k : Nat) (l : List Int) (lost : Bool) (v : Value) (aH : Option Addr) (cH : Nat), k ≤ m ∧ i = .int .i64 (k : Int) ∧ hv = .slice aH l.length cH ∧ lo = .bool lost ∧ PR w0 wr room l lost v aH cH) (fun _ _ i _ => m - (intOf i).toNat)
    case atStart => exact ⟨0, [], false, _, none, 0, Nat.zero_le _, rfl, rfl, rfl, H2.out⟩
    case round =>
      obtain ⟨k, l, lost, v, aH, cH, hk, rfl, rfl, rfl, hpr⟩ := hrel
      have HP := Lib.hid hpr
      clear hpr H2
      by_cases hlt : k < m
      · have hkm : (k : Int) < (m : Int) := by omega
        have hk0 : (0 : Int) ≤ (k : Int) := by omega
        have hkz : k < ops.length := by have := HL.out; omega
        obtain ⟨⟨kind, hkd, _⟩, ⟨A2, n2, c2, xs, hq2, hxl, hxw, hxr⟩⟩ := WL.out _ (List.getElem_mem hkz)
        have hops := List.getElem?_eq_getElem hkz
        have HBW := Lib.hid (show Below w.heap.size w wr from HB1.out.trans (HP.out.bel.mono HB1.out.size))
        obtain ⟨sb, off, rfl, hsb, hs0⟩ := HR.out.at_ (pairCells_at hops).1
        obtain ⟨sb', off', hA, hsb', hs1⟩ := HR.out.at_ (pairCells_at hops).2
        injection hA with hA
        injection hA with hA1 hA2
        subst hA1 hA2
        rw [hkd] at hs0
        rw [hq2, ← Nat.add_assoc] at hs1
        have HS := Lib.hid (fun (W' : World) (hb : Below w.heap.size w W') => (⟨(hb.cell (p := ⟨sb, off + k * 2, none⟩) hsb).trans hs0, (hb.cell (p := ⟨sb, off + k * 2 + 1, none⟩) hsb).trans hs1⟩ : W'.cell? ⟨sb, off + k * 2, none⟩ = some (.int .i64 kind) ∧ W'.cell? ⟨sb, off + k * 2 + 1, none⟩ = some (.slice A2 n2 c2)))
        have HX := Lib.hid (show RI w w.heap.size A2 n2 c2 xs from ⟨hxl, hxr⟩)
        have HXW := Lib.hid hxw
        clear hkd hq2 hs0 hs1 hsb' hops hkz hxr hxw
        obtain ⟨s0, s1⟩ := HS.out wr HBW.out
        by_cases hlong : 40 < n2
        · have h40 : (40 : Int) < (n2 : Int) := by omega
          go_wp2_with fail
          go_ret
          exact ⟨rfl, HBW.out⟩
        · have h40 : (n2 : Int) ≤ 40 := by omega
          go_wp2_with fail
          refine (lent_any _ _ _ _ _ xs ⟨hxl, HX.out.2.below HBW.out⟩ (by omega)).mono ?_
          rintro e w3 ⟨g, cg, rfl, hog, hb3⟩
          rw [hxl] at hog
          have HOG := Lib.hid hog
          have H3 := Lib.hid (HP.out.call hb3)
          have HBW3 := Lib.hid (HB1.out.trans (H3.out.bel.mono HB1.out.size))
          obtain ⟨s30, s31⟩ := HS.out w3 HBW3.out
          have hgz : wr.heap.size ≤ g ∧ g < w3.heap.size := hog.lt g rfl
          have hz0 : w0.heap.size ≤ wr.heap.size := HP.out.bel.size
          rw [hxl]
          have HNG := Lib.hid (show ¬ own w0.heap.size v g from fun h => by have := HP.out.p.lt h; omega)
          have HNGH := Lib.hid (show (Value.slice aH l.length cH).ownBlock ≠ some g from fun h => by have := (HP.out.h.lt g h).2; omega)
          clear hog hb3 HP s0 s1
          dsimp only
          go_upto_block 2 with (fail)
          have hzz := H3.out.bel.size
          go_cut [6, 7, 10, 11, 12, 13] from 56 to 128 (fun hv lo ok _ _ _ wx => ∃ (l' : List Int) (lost' : Bool) (v' : Value) (aH' : Option Addr) (cH' : Nat), hv = .slice aH' l'.length cH' ∧ lo = .bool lost' ∧ ok = .bool true ∧ PR w0 wx room l' lost' v' aH' cH' ∧
            wx.ownsRow wr.heap.size 3 1 (.slice (some ⟨g, 0, none⟩) (n2 + 1) cg) (n2 + 1) (xs.map (.int .i64) ++ [.int .i64 (-77)]))
          case first =>
            by_cases e1 : kind = 1
            · subst e1
              obtain ⟨q, hq⟩ : ∃ q : Nat, min n2 (room - l.length) = q := ⟨_, rfl⟩
              have hfew := H3.out.few
              have hq1 : q ≤ n2 := by omega
              have hl1 : (l.length : Int) ≤ (room : Int) := by omega
              have hr3 : (room : Int) ≤ 1000 := by omega
              go_upto_region 20 with (fail)
              go_cut [11] from 60 to 66 (fun p wx => p = .int .i64 (q : Int) ∧ wx = w3)
              case first =>
                by_cases hc : n2 ≤ room - l.length
                · have HE := Lib.hid (show (n2 : Int) = (q : Int) by omega)
                  have h5 : (n2 : Int) ≤ (room : Int) - (l.length : Int) := by omega
                  clear hq hc hq1 hfew
                  go_wp2_with fail
                  go_meet
                  exact ⟨by rw [← HE.out], rfl⟩
                · have HE := Lib.hid (show (room : Int) - (l.length : Int) = (q : Int) by omega)
                  have h5 : (room : Int) - (l.length : Int) < (n2 : Int) := by omega
                  have h6 : ¬ (n2 : Int) ≤ (room : Int) - (l.length : Int) := by omega
                  clear hq hc hq1 hfew
                  go_wp2_with fail
                  go_meet
                  exact ⟨by rw [← HE.out], rfl⟩
              case rest =>
                obtain ⟨rfl, rfl⟩ := hcut
                have hgl := HOG.out.lt g rfl
                go_wp2_with fail
                refine (put_any w0.heap.size w0.heap.size room l lost v (some ⟨g, 0, none⟩) n2 cg xs _ H3.out.p hxl hfew r2 (by omega) HXW.out ?_).mono ?_
                · intro j z hz
                  refine ⟨g, 0, rfl, hgl.2, HNG.out, ?_⟩
                  have := HOG.out.cells (g := g) rfl j (.int .i64 z) (by rw [List.getElem?_append_left (by rw [List.length_map]; exact (List.getElem?_eq_some_iff.1 hz).1), List.getElem?_map, hz]; rfl)
                  rwa [add_form] at this
                rw [hq]
                rintro e w4 ⟨rfl, ⟨v4, hp4, _⟩, hk4⟩
                have htk : xs.take (room - l.length) = xs.take q := by
                  by_cases h : n2 ≤ room - l.length
                  · rw [List.take_of_length_le (by omega), List.take_of_length_le (by omega)]
                  · rw [show q = room - l.length by omega]
                have hdl : decide (room - l.length < n2) = decide ((q : Int) < (n2 : Int)) := by
                  congr 1
                  apply propext
                  omega
                rw [htk, hdl] at hp4
                have HH4 := Lib.hid (H3.out.pile hk4)
                have HP4 := Lib.hid hp4
                have HG4 := Lib.hid (hk4.own HOG.out (fun k e => by
                  have e : g = k := by simpa [Value.ownBlock] using e
                  subst e; exact HNG.out))
                clear hp4 hk4 htk hdl hgl
                dsimp only
                have HHW := Lib.hid (HB1.out.trans (HH4.out.2.mono HB1.out.size))
                have HSD := Lib.hid (HS.out w4.drew HHW.out.drew)
                obtain ⟨q0, q1⟩ := HSD.out
                have hz4 : w0.heap.size ≤ w4.heap.size := HH4.out.2.size
                have hqc : q ≤ c2 := by have := HX.out.2.1; omega
                have hqc2 : (q : Int) ≤ (c2 : Int) := by omega
                have hq0 : (0 : Int) ≤ (q : Int) := by omega
                have hlm : l.length ≤ 1000 := by omega
                have hxq : (xs.take q).length = q := by rw [List.length_take]; omega
                have HRT := Lib.hid (fun (W' : World) (hb : Below w.heap.size w W') => (show Reads W' w.heap.size 1 A2 q c2 ((xs.take q).map (.int .i64)) from by rw [List.map_take]; exact rd_take (HX.out.2.below hb) hq1))
                go_upto_region 22 with (fail)
                go_region_law (first
                  | (refine step_app _ rfl (.const (.slice none 0 0)) (.tmp 72) 23 rfl w0.heap.size 3 HI.out.choose (.int .i64 0) 1 8 Try.underlying23 HI.out.choose_spec.1 HI.out.choose_spec.2.1 HI.out.choose_spec.2.2.1 HI.out.choose_spec.2.2.2 rfl (by decide) (.slice none 0 0) 0 [] rfl (World.ownsRow_nil _ _ _ _) w4.drew.heap.size aH l.length cH (l.map (.int .i64)) (by simp [Act.eval, Act.put]) (Reads.of_own (show w4.drew.ownsRow w0.heap.size 3 1 _ _ _ from HH4.out.1)) (ints_oneCell _ _) (by unfold maxLen; omega) (by omega) hz4 ?_; intro a5 c5 w5 ho5 hg5 hat5; have HB5 := Lib.hid (HHW.out.drew.grown hg5 (Nat.le_trans HHW.out.size (Nat.le_refl _)) (fun k hk => by simp [Value.ownBlock] at hk)); have q5 := (HS.out w5 HB5.out).2; rw [Nat.zero_add, List.nil_append] at ho5)
                  | (refine step_app _ rfl (.tmp 73) (.tmp 80) 23 rfl w0.heap.size 3 HI.out.choose (.int .i64 0) 1 8 Try.underlying23 HI.out.choose_spec.1 HI.out.choose_spec.2.1 HI.out.choose_spec.2.2.1 HI.out.choose_spec.2.2.2 rfl (by decide) (.slice a5 l.length c5) l.length (l.map (.int .i64)) (by simp [Act.eval, Act.put]) ho5 w.heap.size A2 q c2 ((xs.take q).map (.int .i64)) (by simp [Act.eval, Act.put]) (HRT.out w5 HB5.out) (ints_oneCell _ _) (by unfold maxLen; omega) (by omega) (Nat.le_trans hz4 hg5.size) ?_; intro a6 c6 w6 ho6 hg6 hat6))
                all_goals
                  have HB6 := Lib.hid (show Below w4.heap.size w4 w6 from ((Below.refl _ _).drew.grown hg5 (Nat.le_refl _) (fun k hk => by simp [Value.ownBlock] at hk)).grown hg6 hg5.size (fun k hk => by
                    rcases hat5 with h | h
                    · rw [Nat.zero_add] at h; rw [h] at hk; simp [Value.ownBlock] at hk
                    · rw [Nat.zero_add] at h
                      rw [h] at hk
                      injection hk with hk
                      subst hk
                      exact Nat.le_refl _))
                  have hll6 : (l ++ xs.take q).length = l.length + q := by rw [List.length_append, hxq]
                  have H6 := Lib.hid (show PR w0 w6 room (l ++ xs.take q) (lost || decide ((q : Int) < (n2 : Int))) v4 a6 c6 from ⟨HP4.out.below HB6.out, by rw [hll6]; omega, by rw [hll6, List.map_append]; exact ho6, fresh_call HH4.out.2 HB6.out⟩)
                  have HG6 := Lib.hid (own_block HG4.out fun k e => HB6.out.block k (HG4.out.lt k e).2)
                  clear ho5 hg5 hat5 ho6 hg6 hat6 HP4 HH4 HG4 HB5 HB6 q0 q1 q5 HSD HRT
                  cases lost
                  · by_cases hqn : (q : Int) < (n2 : Int)
                    · rw [show decide ((q : Int) < (n2 : Int)) = true by simpa using hqn] at H6
                      go_wp2_with fail
                      go_meet
                      exact ⟨l ++ xs.take q, true, v4, a6, c6, by rw [hll6], by go_num, by go_num, H6.out, HG6.out⟩
                    · rw [show decide ((q : Int) < (n2 : Int)) = false by simpa using hqn] at H6
                      go_wp2_with fail
                      go_meet
                      exact ⟨l ++ xs.take q, false, v4, a6, c6, by rw [hll6], by go_num, by go_num, H6.out, HG6.out⟩
                  · rw [Bool.true_or] at H6
                    go_wp2_with fail
                    go_meet
                    exact ⟨l ++ xs.take q, true, v4, a6, c6, by rw [hll6], by go_num, by go_num, H6.out, HG6.out⟩
            · by_cases e2 : kind = 2
              · subst e2
                by_cases h0 : l = []
                · subst h0
                  go_wp2_with fail
                  refine (take_none _ _ _ _ _ _ H3.out.p).mono ?_
                  rintro e w4 ⟨rfl, rfl⟩
                  dsimp only
                  go_wp2_with fail
                  go_meet
                  exact ⟨[], lost, v, aH, cH, rfl, rfl, rfl, H3.out, HOG.out⟩
                · obtain ⟨l', x, rfl⟩ : ∃ l' x, l = l' ++ [x] := ⟨l.dropLast, l.getLast h0, (List.dropLast_concat_getLast h0).symm⟩
                  have hll : (l' ++ [x]).length = l'.length + 1 := by simp
                  have hh := H3.out.h
                  rw [hll] at hh
                  obtain ⟨ho2, gh, rfl, hch, hch2, hch3⟩ := own_short hh rfl
                  have HO2 := Lib.hid ho2
                  have hfew := H3.out.few
                  rw [hll] at hfew
                  have hgh := hh.lt gh rfl
                  clear hh ho2
                  go_wp2_with fail
                  refine (take_some _ _ _ _ _ _ _ _ H3.out.p).mono ?_
                  rintro e w4 ⟨rfl, ⟨v4, hp4, hgr4⟩, hk4⟩
                  rw [hll]
                  have hap := H3.out.apart gh (by rw [hll]; rfl)
                  have HC := Lib.hid ((hk4.cell_ (p := ⟨gh, l'.length, none⟩) hgh.2 hap).trans hch)
                  have hc4 := HC.out
                  have H4 := Lib.hid (show PR w0 w4 room l' lost v4 (some ⟨gh, 0, none⟩) cH from ⟨hp4, by omega, hk4.own HO2.out (fun k e => by
                    have e : gh = k := by simpa [Value.ownBlock] using e
                    subst e; exact hap), (H3.out.pile hk4).2⟩)
                  have HG4 := Lib.hid (hk4.own HOG.out (fun k e => by
                    have e : g = k := by simpa [Value.ownBlock] using e
                    subst e; exact HNG.out))
                  have hl0 : (0 : Int) ≤ (l'.length : Int) := by omega
                  have hl1 : (l'.length : Int) ≤ 1000 := by omega
                  clear hp4 hgr4 hk4 hap hch
                  dsimp only
                  go_wp2_with fail
                  go_meet
                  exact ⟨l', lost, v4, some ⟨gh, 0, none⟩, cH, by go_num, rfl, by go_num, H4.out, HG4.out⟩
              · by_cases e3 : kind = 3
                · subst e3
                  go_wp2_with fail
                  refine (found_any _ _ _ _ _ _ _ H3.out.p).mono ?_
                  rintro e w4 ⟨rfl, hp4, hk4⟩
                  have H4 := Lib.hid (show PR w0 w4 room l false v aH cH from ⟨hp4, H3.out.few, (H3.out.pile hk4).1, (H3.out.pile hk4).2⟩)
                  have HG4 := Lib.hid (hk4.own HOG.out (fun k e => by
                    have e : g = k := by simpa [Value.ownBlock] using e
                    subst e; exact HNG.out))
                  clear hp4 hk4
                  dsimp only
                  go_wp2_with fail
                  go_meet
                  exact ⟨l, false, v, aH, cH, rfl, rfl, rfl, H4.out, HG4.out⟩
                · go_wp2_with fail
                  refine (clear_any _ _ _ _ _ _ _ H3.out.p).mono ?_
                  rintro e w4 ⟨rfl, hp4, hk4⟩
                  have H4 := Lib.hid (show PR w0 w4 room [] false (.slice none 0 0) none 0 from ⟨hp4, by simp, World.ownsRow_nil _ _ _ _, (H3.out.pile hk4).2⟩)
                  have HG4 := Lib.hid (hk4.own HOG.out (fun k e => by
                    have e : g = k := by simpa [Value.ownBlock] using e
                    subst e; exact HNG.out))
                  clear hp4 hk4
                  dsimp only
                  go_wp2_with fail
                  go_meet
                  exact ⟨[], false, _, none, 0, rfl, rfl, rfl, H4.out, HG4.out⟩
          case rest =>
            obtain ⟨l1, lost1, v1, aH1, cH1, rfl, rfl, rfl, hpr, hog⟩ := hcut
            have H4 := Lib.hid hpr
            have HOG4 := Lib.hid hog
            have HBW4 := Lib.hid (HB1.out.trans (H4.out.bel.mono HB1.out.size))
            obtain ⟨s40, s41⟩ := HS.out wc HBW4.out
            have hgl := (hog.lt g rfl).2
            have hcl : n2 + 1 ≤ cg ∧ cg ≤ maxLen := by
              rcases hog.2 with ⟨h1, _⟩ | ⟨g', cap, cur, h1, _, _, h2, h3, _⟩
              · injection h1 with h1; cases h1
              · injection h1 with _ _ h1; subst h1; exact ⟨h2, h3⟩
            have HM := Lib.hid (show wc.cell? ⟨g, 0 + n2, none⟩ = some (.int .i64 (-77)) from by
              have := hog.cells (g := g) rfl n2 (.int .i64 (-77)) (by simp [hxl])
              rwa [add_form] at this)
            have HRM := Lib.hid (show RI wc (g + 1) (some ⟨g, 0, none⟩) n2 cg xs from ⟨hxl, by omega, hcl.2, by simpa using hxl, fun _ => ⟨g, 0, rfl, by omega, fun j u hu => by
              have := hog.cells (g := g) rfl j u (by rw [List.getElem?_append_left (by have := (List.getElem?_eq_some_iff.1 hu).1; exact this)]; exact hu)
              rwa [add_form] at this⟩⟩)
            have HXL := Lib.hid (show RI wc w.heap.size A2 n2 c2 xs from ⟨hxl, HX.out.2.below HBW4.out⟩)
            clear hpr hog HOG H3 s30 s31
            go_wp2_with fail
            refine (len_any _ _ _ _ _ _ _ H4.out.p).mono ?_
            rintro e w5 ⟨rfl, rfl⟩
            dsimp only
            go_wp2_with fail
            refine (lost_any _ _ _ _ _ _ _ H4.out.p).mono ?_
            rintro e w5 ⟨rfl, rfl⟩
            dsimp only
            go_wp2_with fail
            refine (stays_any _ g 0 n2 cg _ A2 n2 c2 xs xs (.inr HRM.out) HXL.out hcl.1 hcl.2 HM.out).mono ?_
            rw [show decide (xs = xs) = true by simp]
            rintro e w6 ⟨rfl, d6, rfl⟩
            have H6 := Lib.hid (H4.out.drewN d6)
            dsimp only
            go_wp2_with fail
            go_roundw
            case rel => exact ⟨k + 1, l1, lost1, v1, aH1, cH1, by omega, by go_num, rfl, rfl, H6.out⟩
            case measure => simp [intOf]; omega
      · obtain rfl : k = m := by omega
        go_wp2_with fail
        refine (found_nil _).mono ?_
        rintro e w3 ⟨rfl, rfl⟩
        dsimp only
        go_wp2_with fail
        refine (clear_nil _).mono ?_
        rintro e w3 ⟨rfl, rfl⟩
        dsimp only
        go_wp2_with fail
        refine (take_nil _).mono ?_
        rintro e w3 ⟨rfl, rfl⟩
        dsimp only
        go_wp2_with fail
        have HE := Lib.hid (HP.out.call ((Below.refl _ _).alloc (Nat.le_refl _) (.cells #[.int .i64 1] 3)))
        refine (put_nil _ _ _ _).mono ?_
        rintro e w3 ⟨rfl, rfl⟩
        dsimp only
        go_wp2_with fail
        refine (len_nil _).mono ?_
        rintro e w3 ⟨rfl, rfl⟩
        dsimp only
        go_wp2_with fail
        refine (lost_nil _).mono ?_
        rintro e w3 ⟨rfl, rfl⟩
        dsimp only
        go_wp2_with fail
        go_ret
        exact ⟨rfl, HB1.out.trans (HE.out.bel.mono HB1.out.size)⟩
theorem walk (r : Int) (A : Option Addr) (m c : Nat) (ops : List (Value × Value)) (w : World) (_w0 : (Lit.int .i64 r).wf = true) (hl : ops.length = m)
    (wl : ∀ q ∈ ops, (∃ z, q.1 = .int .i64 z ∧ (Lit.int .i64 z).wf = true) ∧ (∃ (A : Option Addr) (n c : Nat) (zs : List Int), q.2 = .slice A n c ∧ zs.length = n ∧ (∀ z ∈ zs, (Lit.int .i64 z).wf = true) ∧ Reads w w.heap.size 1 A n c (zs.map (.int .i64))))
    (hR : Reads w w.heap.size 2 A m c (pairCells ops)) :
    Calls Try.prog 12 #[.int .i64 r, .slice A m c] w fun e w' => e = .returned (.bool true) ∧ Below w.heap.size w w' := by
  by_cases h : 80 < m
  · exact early r A m c w h
  · exact core r A m c ops w hl wl hR (by omega) _ rfl
end Go.Proofs.Ytnolkgciapggdaa.PilePlays
