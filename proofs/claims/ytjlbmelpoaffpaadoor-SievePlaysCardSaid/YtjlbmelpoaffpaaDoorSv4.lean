/- Package sieve: the contracts of New, Clear, Put, Cut. -/
import Derived.Test.YtjlbmelpoaffpaaDoorSv3
import Derived.Test.YtjlbmelpoaffpaaDoorArgs
import Derived.Deep.OwnRows
import Derived.Lib.SliceRun
import Derived.Deep.RegionLaw
namespace Go.Proofs.YtjlbmelpoaffpaaDoor.Sv
open Go.RowKit Bit Wd
set_option linter.unusedSimpArgs false
set_option linter.unusedVariables false

theorem infoW : (Tryd.prog.info? 23).map (fun i => (i.zero, i.size, i.bytes)) = some (some (.int .u64 0), 1, 8) := by kernel_rfl
theorem made_words (n : Nat) : madeCells #[.int .u64 0] n = cw (List.replicate n 0) := by
  apply Array.ext_getElem?
  intro j
  by_cases h : j < n <;> simp [madeCells, cw, h, Nat.mod_one]
theorem make_words (n : Nat) (hn : n ≤ 64) (W : World) : (Instr.makeSlice 73 (.int .i64 n) (.int .i64 n)).run Tryd.prog W = .ok (.slice (some ⟨W.heap.size, 0, none⟩) n n) (W.alloc (.cells (cw (List.replicate n 0)) 23)) := by
  have := run_make_row' (P := Tryd.prog) 73 23 (.int .u64 0) 8 Tryd.underlying73 infoW rfl .i64 .i64 n (by omega) (by omega) W
  rw [made_words] at this
  exact this
def Made (w : World) (n : Nat) (e : Ending) (w' : World) : Prop :=
  ∃ b g, e = .returned (.pointer (some ⟨b, 0, none⟩)) ∧ SieveAt w' b g n (List.replicate ((n + 63) / 64) 0) ∧ w.heap.size ≤ b ∧ w.heap.size ≤ g ∧ Below w.heap.size w w'
theorem made_ (w : World) (n : Nat) (hn : n ≤ 4096) (m : Nat) (hm : (n + 63) / 64 = m) : Made w n (.returned (.pointer (some ⟨w.heap.size + 1, 0, none⟩))) ((w.alloc (.cells (cw (List.replicate m 0)) 23)).alloc (.cells #[.int .i64 n, .slice (some ⟨w.heap.size, 0, none⟩) m m] 75)) := by
  subst hm
  have ho := zero_ok hn
  refine ⟨_, w.heap.size, rfl, ⟨?_, ?_, hn, ho.hw, ho.lt, ho.inn⟩, by omega, by omega, ((Below.refl _ _).alloc (by simp) _).alloc (by simp) _⟩
  · have := Blk.new (w.alloc (.cells (cw (List.replicate ((n + 63) / 64) 0)) 23)) #[.int .i64 n, .slice (some ⟨w.heap.size, 0, none⟩) ((n + 63) / 64) ((n + 63) / 64)] 75
    rw [World.size_alloc] at this
    rw [List.length_replicate]
    exact this
  · exact (Blk.new w _ _).alloc _
theorem new_any (x : Int) (w : World) : Calls Tryd.prog 12 #[.int .i64 x] w (Made w (min (max x 0) 4096).toNat) := by
  by_cases h0 : x < 0
  · rw [show (min (max x 0) 4096).toNat = 0 by omega]
    have hm := make_words 0 (by omega)
    have HM := Lib.hid (made_ w 0 (by omega) 0 rfl)
    generalize cw (List.replicate 0 0) = RP at *
    rw [show ((0 : Nat) : Int) = 0 from rfl] at hm HM
    go_enter Tryd.func12, Tryd.ntmps12
    go_wp2_with fail
    go_ret
    exact HM.out
  by_cases h1 : 4096 < x
  · rw [show (min (max x 0) 4096).toNat = 4096 by omega]
    have hm := make_words 64 (by omega)
    have HM := Lib.hid (made_ w 4096 (by omega) 64 rfl)
    generalize cw (List.replicate 64 0) = RP at *
    rw [show ((64 : Nat) : Int) = 64 from rfl] at hm
    rw [show ((4096 : Nat) : Int) = 4096 from rfl] at HM
    generalize Made w 4096 = MM at *
    have hx0 : (0 : Int) ≤ x := by omega
    go_enter Tryd.func12, Tryd.ntmps12
    go_wp2_with fail
    exact HM.out
  · obtain ⟨n, rfl⟩ : ∃ n : Nat, x = n := ⟨x.toNat, by omega⟩
    rw [show (min (max (n : Int) 0) 4096).toNat = n by omega]
    obtain ⟨m, hmm⟩ : ∃ m, (n + 63) / 64 = m := ⟨_, rfl⟩
    have hm := make_words m (by omega)
    have HM := Lib.hid (made_ w n (by omega) m hmm)
    have h2 : (0 : Int) ≤ (n : Int) := by omega
    have h3 : (n : Int) ≤ 4096 := by omega
    have HQ := Lib.hid (show ((n : Int) + 64 - 1) / 64 = (m : Int) by omega)
    clear h0 h1 hmm
    go_enter Tryd.func12, Tryd.ntmps12
    go_wp2_with (simp only [HQ.out])
    go_ret
    exact HM.out
theorem SieveAt.flip {w w' : World} {b g n : Nat} {W : List Nat} (h : SieveAt w b g n W) (on : Bool) {x : Nat} (hx : x < n) (hr : Blk w' g (cw (flip1 on W x)) 23) (hb : w'.heap[b]? = w.heap[b]?) : SieveAt w' b g n (flip1 on W x) := by
  have ho := flip_ok h.ok on hx
  exact ⟨by rw [flip1_len]; exact hb.trans h.blk, hr, ho.hn, ho.hw, ho.lt, ho.inn⟩
theorem blk_ne {w : World} {b b' : Nat} {cs cs' : Array Value} {T T' : TypeId} (h : Blk w b cs T) (h' : Blk w b' cs' T') (hT : T ≠ T') : b ≠ b' := by
  rintro rfl
  have e : some (Obj.cells cs T (0, 0)) = some (Obj.cells cs' T' (0, 0)) := h.symm.trans h'
  injection e with e
  injection e with e1 e2
  exact hT e2
theorem SieveAt.ne {w : World} {b g n : Nat} {W : List Nat} (h : SieveAt w b g n W) : b ≠ g := blk_ne h.blk h.row (by decide)
/-- The store of one word. -/
theorem SieveAt.store {w : World} {b g n : Nat} {W : List Nat} (h : SieveAt w b g n W) (on : Bool) {x v : Nat} (hx : x < n) (hv : W[x / 64]? = some v) (d : Nat) (u : Nat) (hu : (if on then v ||| 2 ^ (x % 64) else v &&& (18446744073709551615 - 2 ^ (x % 64))) = u) :
    SieveAt ((w.drewN d).setCell ⟨g, x / 64, none⟩ (.int .u64 (u : Int))) b g n (flip1 on W x) ∧ Kept (fun i => i = g) w ((w.drewN d).setCell ⟨g, x / 64, none⟩ (.int .u64 (u : Int))) := by
  have h2 : W.getD (x / 64) 0 = v := by simp [List.getD, hv]
  refine ⟨h.flip on hx ?_ ((Below.heap_setCell _ ⟨g, x / 64, none⟩ _ b h.ne).trans rfl), ((Kept.refl (fun i => i = g) w).drewN d).set (p := ⟨g, x / 64, none⟩) (.inl rfl) _⟩
  have := (h.drewN d).row.set (x / 64) (.int .u64 (u : Int))
  rw [cw_set] at this
  unfold flip1
  rw [h2, hu]
  exact this
set_option maxHeartbeats 1000000 in
set_option maxRecDepth 20000 in
theorem put_any (b g n : Nat) (W : List Nat) (A : Option Addr) (m c B : Nat) (l : List Int) (w : World) (h : SieveAt w b g n W) (hR : Reads w B 1 A m c (l.map (.int .i64))) (hB : B ≤ w.heap.size) (hA : 0 < m → ∀ a, A = some a → a.block ≠ g) (hwl : ∀ x ∈ l, (Lit.int .i64 x).wf = true) (hm : m ≤ 1000000) :
    Calls Tryd.prog 13 #[.pointer (some ⟨b, 0, none⟩), .slice A m c] w fun e w' => e = .returned (.int .i64 ((runL n true W l).2 : Nat)) ∧ SieveAt w' b g n (runL n true W l).1 ∧ Kept (fun i => i = g) w w' := by
  have H := Lib.hid h
  have HR := Lib.hid hR
  have HA := Lib.hid hA
  have hlm : l.length = m := by have := hR.2.2.1; simpa using this
  clear h hR hA hwl
  go_enter Tryd.func13, Tryd.ntmps13
  go_wp2_with fail
  go_loopw [5, 10] (fun s i wr => ∃ k q : Nat, ∃ W1 : List Nat, k ≤ m ∧ i = .int .i64 (k : Int) ∧ s = .int .i64 (q : Int) ∧ (W1, q) = runL n true W (l.take k) ∧ q ≤ k ∧ SieveAt wr b g n W1 ∧ Kept (fun i => i = g) w wr) (fun _ i _ => m - (intOf i).toNat)
  case atStart => exact ⟨0, 0, W, Nat.zero_le _, rfl, rfl, rfl, Nat.le_refl _, H.out, Kept.refl _ _⟩
  case round =>
    obtain ⟨k, q, W1, hk, rfl, rfl, hq, hqk, hs, hkk⟩ := hrel
    have HQ := Lib.hid hq
    have HS := Lib.hid hs
    have HK := Lib.hid hkk
    clear hq hs hkk
    by_cases hlt : k < m
    · obtain ⟨x, hx⟩ : ∃ x, l[k]? = some x := ⟨_, List.getElem?_eq_getElem (by omega)⟩
      have hxv : (l.map (Value.int .i64))[k]? = some (.int .i64 x) := by simp [hx]
      obtain ⟨sb, off, rfl, hsb, hs0⟩ := HR.out.at_ hxv
      have hsg : sb ≠ g := HA.out (by omega) _ rfl
      have hc := (HK.out.cell_ (p := ⟨sb, off + k, none⟩) (Nat.lt_of_lt_of_le hsb hB) hsg).trans hs0
      have HT := Lib.hid (runL_take (n := n) (on := true) (W := W) hx)
      have h3 : (k : Int) < (m : Int) := by omega
      clear hx hxv hs0
      by_cases hin : 0 ≤ x ∧ x < (n : Int)
      · obtain ⟨j, rfl⟩ : ∃ j : Nat, x = j := ⟨x.toNat, by omega⟩
        have HM := Lib.hid (may_any b g n W1 (j : Int) wr HS.out)
        rw [show decide (0 ≤ (j : Int) ∧ (j : Int) < (n : Int)) = true by simp; omega] at HM
        have hjn : j < n := by omega
        have HH := Lib.hid (has_in b g n W1 j wr HS.out hjn)
        cases hhj : has W1 j
        · rw [hhj] at HH
          have HE := Lib.hid (show (flip1 true W1 j, q + 1) = runL n true W (l.take (k + 1)) from by
            rw [HT.out, ← HQ.out]
            unfold step1
            rw [if_pos ⟨by omega, by omega, by simpa using hhj⟩]
            simp)
          go_wp2_with fail
          refine HM.out.mono ?_
          rintro e w1 ⟨rfl, rfl⟩
          dsimp only
          go_wp2_with fail
          refine HH.out.mono ?_
          rintro e w1 ⟨rfl, hb1⟩
          dsimp only
          go_wp2_with fail
          have H1 := Lib.hid (HS.out.call hb1)
          obtain ⟨v, hv, hv2, hl⟩ := H1.out.ok.word hjn
          obtain ⟨u, hu⟩ : ∃ u, v ||| 2 ^ (j % 64) = u := ⟨_, rfl⟩
          have HST := Lib.hid (H1.out.store true hjn hv 1 u hu)
          have hmm := Nat.mod_lt j (show 0 < 64 by omega)
          have hor := or64 v (2 ^ (j % 64)) hv2 (pow_lt hmm)
          rw [hu] at hor
          obtain ⟨c0, c1, f0, f1⟩ := (show Blk w1.drew b _ _ from (H1.out.drewN 1).blk).two
          have hcv : w1.drew.cell? ⟨g, j / 64, none⟩ = some (.int .u64 (v : Int)) := ((show Blk w1.drew g _ _ from (H1.out.drewN 1).row).cell _).trans (cw_get hv)
          have hfv : w1.drew.frozen? ⟨g, j / 64, none⟩ = false := (show Blk w1.drew g _ _ from (H1.out.drewN 1).row).free _
          have hwl : W1.length ≤ 64 := by have := H1.out.hn; rw [H1.out.hw]; omega
          have hq0 : (0 : Int) ≤ (j : Int) / 64 := by omega
          have hq1 : (j : Int) / 64 < (W1.length : Int) := by omega
          have hqn : ((j : Int) / 64).toNat = j / 64 := by omega
          have HB := Lib.hid (bit_any j (by have := H1.out.hn; omega) w1.drew)
          have HX := Lib.hid hv2
          generalize ((2 ^ (j % 64) : Nat) : Int) = z at *
          clear hv hv2 hu hmm
          go_region_with (go_at_call 45; refine HB.out.mono ?_; rintro e w2 ⟨rfl, rfl⟩; dsimp only)
          all_goals
            have HK1 := Lib.hid ((HK.out.trans (Kept.of_below hb1 _)).trans HST.out.2)
            go_wp2_with fail
            go_roundw
            case rel => exact ⟨k + 1, q + 1, flip1 true W1 j, by omega, by go_num, by go_num, HE.out, by omega, HST.out.1, HK1.out⟩
            case measure => simp [intOf]; omega
        · rw [hhj] at HH
          have HE := Lib.hid (show (W1, q) = runL n true W (l.take (k + 1)) from by
            rw [HT.out, ← HQ.out]
            unfold step1
            rw [if_neg (by rintro ⟨_, _, h⟩; rw [show (j : Int).toNat = j by omega] at h; rw [hhj] at h; cases h)])
          go_wp2_with fail
          refine HM.out.mono ?_
          rintro e w1 ⟨rfl, rfl⟩
          dsimp only
          go_wp2_with fail
          refine HH.out.mono ?_
          rintro e w1 ⟨rfl, hb1⟩
          have H1 := Lib.hid (HS.out.call hb1)
          have HK1 := Lib.hid (HK.out.trans (Kept.of_below hb1 _))
          dsimp only
          go_wp2_with fail
          go_roundw
          case rel => exact ⟨k + 1, q, W1, by omega, by go_num, rfl, HE.out, by omega, H1.out, HK1.out⟩
          case measure => simp [intOf]; omega
      · have HM := Lib.hid (may_any b g n W1 x wr HS.out)
        rw [show decide (0 ≤ x ∧ x < (n : Int)) = false by simpa using hin] at HM
        have HE := Lib.hid (show (W1, q) = runL n true W (l.take (k + 1)) from by
          rw [HT.out, ← HQ.out]
          unfold step1
          rw [if_neg (by rintro ⟨h1, h2, _⟩; exact hin ⟨h1, h2⟩)])
        go_wp2_with fail
        refine HM.out.mono ?_
        rintro e w1 ⟨rfl, rfl⟩
        dsimp only
        go_wp2_with fail
        go_roundw
        case rel => exact ⟨k + 1, q, W1, by omega, by go_num, rfl, HE.out, by omega, HS.out, HK.out⟩
        case measure => simp [intOf]; omega
    · obtain rfl : k = m := by omega
      have HE := Lib.hid (show (W1, q) = runL n true W l from by
        have := HQ.out
        rw [List.take_of_length_le (by omega)] at this
        exact this)
      go_wp2_with fail
      go_ret
      rw [← HE.out]
      exact ⟨rfl, HS.out, HK.out⟩
set_option maxHeartbeats 1000000 in
set_option maxRecDepth 20000 in
theorem cut_any (b g n : Nat) (W : List Nat) (A : Option Addr) (m c B : Nat) (l : List Int) (w : World) (h : SieveAt w b g n W) (hR : Reads w B 1 A m c (l.map (.int .i64))) (hB : B ≤ w.heap.size) (hA : 0 < m → ∀ a, A = some a → a.block ≠ g) (hwl : ∀ x ∈ l, (Lit.int .i64 x).wf = true) (hm : m ≤ 1000000) :
    Calls Tryd.prog 18 #[.pointer (some ⟨b, 0, none⟩), .slice A m c] w fun e w' => e = .returned (.int .i64 ((runL n false W l).2 : Nat)) ∧ SieveAt w' b g n (runL n false W l).1 ∧ Kept (fun i => i = g) w w' := by
  have H := Lib.hid h
  have HR := Lib.hid hR
  have HA := Lib.hid hA
  have hlm : l.length = m := by have := hR.2.2.1; simpa using this
  clear h hR hA hwl
  go_enter Tryd.func18, Tryd.ntmps18
  go_wp2_with fail
  go_loopw [5, 10] (fun s i wr => ∃ k q : Nat, ∃ W1 : List Nat, k ≤ m ∧ i = .int .i64 (k : Int) ∧ s = .int .i64 (q : Int) ∧ (W1, q) = runL n false W (l.take k) ∧ q ≤ k ∧ SieveAt wr b g n W1 ∧ Kept (fun i => i = g) w wr) (fun _ i _ => m - (intOf i).toNat)
  case atStart => exact ⟨0, 0, W, Nat.zero_le _, rfl, rfl, rfl, Nat.le_refl _, H.out, Kept.refl _ _⟩
  case round =>
    obtain ⟨k, q, W1, hk, rfl, rfl, hq, hqk, hs, hkk⟩ := hrel
    have HQ := Lib.hid hq
    have HS := Lib.hid hs
    have HK := Lib.hid hkk
    clear hq hs hkk
    by_cases hlt : k < m
    · obtain ⟨x, hx⟩ : ∃ x, l[k]? = some x := ⟨_, List.getElem?_eq_getElem (by omega)⟩
      have hxv : (l.map (Value.int .i64))[k]? = some (.int .i64 x) := by simp [hx]
      obtain ⟨sb, off, rfl, hsb, hs0⟩ := HR.out.at_ hxv
      have hsg : sb ≠ g := HA.out (by omega) _ rfl
      have hc := (HK.out.cell_ (p := ⟨sb, off + k, none⟩) (Nat.lt_of_lt_of_le hsb hB) hsg).trans hs0
      have HT := Lib.hid (runL_take (n := n) (on := false) (W := W) hx)
      have h3 : (k : Int) < (m : Int) := by omega
      clear hx hxv hs0
      by_cases hin : 0 ≤ x ∧ x < (n : Int) ∧ hasI W1 x = true
      · obtain ⟨hx0, hxn, hhx⟩ := hin
        obtain ⟨j, rfl⟩ : ∃ j : Nat, x = j := ⟨x.toNat, by omega⟩
        have hjn : j < n := by omega
        have hhj : has W1 j = true := by rw [← hasI_nat]; exact hhx
        have HH := Lib.hid (has_any b g n W1 (j : Int) wr HS.out)
        rw [hhx] at HH
        have HE := Lib.hid (show (flip1 false W1 j, q + 1) = runL n false W (l.take (k + 1)) from by
          rw [HT.out, ← HQ.out]
          unfold step1
          rw [if_pos ⟨by omega, by omega, by simpa using hhj⟩]
          simp)
        clear hx0 hxn hhx
        go_wp2_with fail
        refine HH.out.mono ?_
        rintro e w1 ⟨rfl, hb1⟩
        dsimp only
        go_wp2_with fail
        have H1 := Lib.hid (HS.out.call hb1)
        obtain ⟨v, hv, hv2, hl⟩ := H1.out.ok.word hjn
        obtain ⟨u, hu⟩ : ∃ u, v &&& (18446744073709551615 - 2 ^ (j % 64)) = u := ⟨_, rfl⟩
        have HST := Lib.hid (H1.out.store false hjn hv 1 u hu)
        have hmm := Nat.mod_lt j (show 0 < 64 by omega)
        have hor := andn64 v (2 ^ (j % 64)) hv2 (pow_lt hmm)
        rw [hu] at hor
        obtain ⟨c0, c1, f0, f1⟩ := (show Blk w1.drew b _ _ from (H1.out.drewN 1).blk).two
        have hcv : w1.drew.cell? ⟨g, j / 64, none⟩ = some (.int .u64 (v : Int)) := ((show Blk w1.drew g _ _ from (H1.out.drewN 1).row).cell _).trans (cw_get hv)
        have hfv : w1.drew.frozen? ⟨g, j / 64, none⟩ = false := (show Blk w1.drew g _ _ from (H1.out.drewN 1).row).free _
        have hwl : W1.length ≤ 64 := by have := H1.out.hn; rw [H1.out.hw]; omega
        have hq0 : (0 : Int) ≤ (j : Int) / 64 := by omega
        have hq1 : (j : Int) / 64 < (W1.length : Int) := by omega
        have hqn : ((j : Int) / 64).toNat = j / 64 := by omega
        have HB := Lib.hid (bit_any j (by have := H1.out.hn; omega) w1.drew)
        have HX := Lib.hid hv2
        generalize ((2 ^ (j % 64) : Nat) : Int) = z at *
        clear hv hv2 hu hmm
        go_region_with (go_at_call 45; refine HB.out.mono ?_; rintro e w2 ⟨rfl, rfl⟩; dsimp only)
        all_goals
          have HK1 := Lib.hid ((HK.out.trans (Kept.of_below hb1 _)).trans HST.out.2)
          go_wp2_with fail
          go_roundw
          case rel => exact ⟨k + 1, q + 1, flip1 false W1 j, by omega, by go_num, by go_num, HE.out, by omega, HST.out.1, HK1.out⟩
          case measure => simp [intOf]; omega
      · have HH := Lib.hid (has_any b g n W1 x wr HS.out)
        have hno : hasI W1 x = false := by
          by_cases h : 0 ≤ x ∧ x < (n : Int)
          · cases e : hasI W1 x
            · rfl
            · exact absurd ⟨h.1, h.2, e⟩ hin
          · exact hasI_out HS.out h
        rw [hno] at HH
        have HE := Lib.hid (show (W1, q) = runL n false W (l.take (k + 1)) from by
          rw [HT.out, ← HQ.out]
          unfold step1
          rw [if_neg (by
            rintro ⟨h1, h2, h3⟩
            refine hin ⟨h1, h2, ?_⟩
            unfold hasI
            rw [h3]
            simp [h1])])
        clear hin hno
        go_wp2_with fail
        refine HH.out.mono ?_
        rintro e w1 ⟨rfl, hb1⟩
        have H1 := Lib.hid (HS.out.call hb1)
        have HK1 := Lib.hid (HK.out.trans (Kept.of_below hb1 _))
        dsimp only
        go_wp2_with fail
        go_roundw
        case rel => exact ⟨k + 1, q, W1, by omega, by go_num, rfl, HE.out, by omega, H1.out, HK1.out⟩
        case measure => simp [intOf]; omega
    · obtain rfl : k = m := by omega
      have HE := Lib.hid (show (W1, q) = runL n false W l from by
        have := HQ.out
        rw [List.take_of_length_le (by omega)] at this
        exact this)
      go_wp2_with fail
      go_ret
      rw [← HE.out]
      exact ⟨rfl, HS.out, HK.out⟩
theorem put_nil (A : Option Addr) (m c B : Nat) (l : List Int) (w : World) (hR : Reads w B 1 A m c (l.map (.int .i64))) (hm : m ≤ 1000000) :
    Calls Tryd.prog 13 #[.pointer none, .slice A m c] w fun e w' => e = .returned (.int .i64 0) ∧ Below w.heap.size w w' := by
  have HR := Lib.hid hR
  have hlm : l.length = m := by have := hR.2.2.1; simpa using this
  clear hR
  go_enter Tryd.func13, Tryd.ntmps13
  go_wp2_with fail
  go_loopw [5, 10] (fun s i wr => ∃ k : Nat, k ≤ m ∧ i = .int .i64 (k : Int) ∧ s = .int .i64 0 ∧ w = wr) (fun _ i _ => m - (intOf i).toNat)
  case atStart => exact ⟨0, Nat.zero_le _, rfl, rfl, rfl⟩
  case round =>
    obtain ⟨k, hk, rfl, rfl, rfl⟩ := hrel
    by_cases hlt : k < m
    · obtain ⟨x, hx⟩ : ∃ x, l[k]? = some x := ⟨_, List.getElem?_eq_getElem (by omega)⟩
      have hxv : (l.map (Value.int .i64))[k]? = some (.int .i64 x) := by simp [hx]
      obtain ⟨sb, off, rfl, hsb, hs0⟩ := HR.out.at_ hxv
      have h3 : (k : Int) < (m : Int) := by omega
      clear hx hxv
      go_wp2_with fail
      refine (may_nil x _).mono ?_
      rintro e w1 ⟨rfl, rfl⟩
      dsimp only
      go_wp2_with fail
      go_roundw
      case rel => exact ⟨k + 1, by omega, by go_num, rfl, trivial⟩
      case measure => simp [intOf]; omega
    · obtain rfl : k = m := by omega
      go_wp2_with fail
      go_ret
      exact ⟨rfl, Below.refl _ _⟩
theorem cut_nil (A : Option Addr) (m c B : Nat) (l : List Int) (w : World) (hR : Reads w B 1 A m c (l.map (.int .i64))) (hm : m ≤ 1000000) (hB : B ≤ w.heap.size) :
    Calls Tryd.prog 18 #[.pointer none, .slice A m c] w fun e w' => e = .returned (.int .i64 0) ∧ Below w.heap.size w w' := by
  have HR := Lib.hid hR
  have hlm : l.length = m := by have := hR.2.2.1; simpa using this
  clear hR
  go_enter Tryd.func18, Tryd.ntmps18
  go_wp2_with fail
  go_loopw [5, 10] (fun s i wr => ∃ k : Nat, k ≤ m ∧ i = .int .i64 (k : Int) ∧ s = .int .i64 0 ∧ Below w.heap.size w wr) (fun _ i _ => m - (intOf i).toNat)
  case atStart => exact ⟨0, Nat.zero_le _, rfl, rfl, Below.refl _ _⟩
  case round =>
    obtain ⟨k, hk, rfl, rfl, hb⟩ := hrel
    by_cases hlt : k < m
    · obtain ⟨x, hx⟩ : ∃ x, l[k]? = some x := ⟨_, List.getElem?_eq_getElem (by omega)⟩
      have hxv : (l.map (Value.int .i64))[k]? = some (.int .i64 x) := by simp [hx]
      obtain ⟨sb, off, rfl, hsb, hs0⟩ := HR.out.at_ hxv
      have hc := (hb.cell (p := ⟨sb, off + k, none⟩) (Nat.lt_of_lt_of_le hsb hB)).trans hs0
      have h3 : (k : Int) < (m : Int) := by omega
      clear hx hxv hs0
      go_wp2_with fail
      refine (has_nil x _).mono ?_
      rintro e w1 ⟨rfl, hb1⟩
      have hb2 := fresh_call hb hb1
      dsimp only
      go_wp2_with fail
      go_roundw
      case rel => exact ⟨k + 1, by omega, by go_num, rfl, hb2⟩
      case measure => simp [intOf]; omega
    · obtain rfl : k = m := by omega
      go_wp2_with fail
      go_ret
      exact ⟨rfl, hb⟩
end Go.Proofs.YtjlbmelpoaffpaaDoor.Sv
