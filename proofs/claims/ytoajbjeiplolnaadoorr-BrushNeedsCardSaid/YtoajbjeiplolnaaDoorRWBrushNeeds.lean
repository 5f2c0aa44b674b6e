/- The walk of besomlaw21.BrushNeeds: it returns true, and writes nothing that was there. -/
import Derived.Test.YtoajbjeiplolnaaDoorRBrA
import Derived.Test.YtoajbjeiplolnaaDoorRBrB
namespace Go.Proofs.YtoajbjeiplolnaaDoorR.BrushNeeds
open Go.RowKit Ar Hp Br
set_option linter.unusedSimpArgs false
set_option linter.unusedVariables false

set_option maxRecDepth 100000 in
theorem early (A : Option Addr) (n c : Nat) (N cl : Int) (w : World) (hT : Pg.Tab w ∧ Tz.Tab w) (h : n < 1 ∨ 8 < n ∨ N < 0 ∨ 80 < N) :
    Calls Tryd.prog 7 #[.slice A n c, .int .i64 N, .int .i64 cl] w fun e w' => e = .returned (.bool true) ∧ Below w.heap.size w w' := by
  have HT := Lib.hid hT
  clear hT
  by_cases h1 : n < 1
  · have h1' : (n : Int) < 1 := by omega
    clear h h1
    go_enter Tryd.func7, Tryd.ntmps7
    go_wp2_with fail
    refine (alive _ HT.out.1 HT.out.2).mono ?_
    rintro e w1 ⟨rfl, hb⟩
    dsimp only
    go_wp2_with fail
    go_ret
    exact ⟨rfl, hb⟩
  · have h1' : ¬ (n : Int) < 1 := by omega
    by_cases h2 : 8 < n
    · have h2' : (8 : Int) < (n : Int) := by omega
      clear h h1 h2
      go_enter Tryd.func7, Tryd.ntmps7
      go_wp2_with fail
      refine (alive _ HT.out.1 HT.out.2).mono ?_
      rintro e w1 ⟨rfl, hb⟩
      dsimp only
      go_wp2_with fail
      go_ret
      exact ⟨rfl, hb⟩
    · have h2' : ¬ (8 : Int) < (n : Int) := by omega
      by_cases h4 : N < 0
      · clear h h1 h2
        go_enter Tryd.func7, Tryd.ntmps7
        go_wp2_with fail
        refine (alive _ HT.out.1 HT.out.2).mono ?_
        rintro e w1 ⟨rfl, hb⟩
        dsimp only
        go_wp2_with fail
        go_ret
        exact ⟨rfl, hb⟩
      · have h5 : (80 : Int) < N := by omega
        clear h h1 h2
        go_enter Tryd.func7, Tryd.ntmps7
        go_wp2_with fail
        refine (alive _ HT.out.1 HT.out.2).mono ?_
        rintro e w1 ⟨rfl, hb⟩
        dsimp only
        go_wp2_with fail
        go_ret
        exact ⟨rfl, hb⟩
/-- The first classes stand in the row. -/
def Cl (w : World) (bc : Nat) (σ : HS) (k : Nat) : Prop := ∃ ws : List Int, Blk w bc (cells ws) 3 ∧ ws.length = 64 ∧ ∀ i, i < k → ws[i]? = some (pcl σ i)
theorem Cl.keep {w w' : World} {bc k : Nat} {σ : HS} (h : Cl w bc σ k) (hb : w'.heap[bc]? = w.heap[bc]?) : Cl w' bc σ k := by
  obtain ⟨ws, h1, h2⟩ := h
  exact ⟨ws, hb.trans h1, h2⟩
theorem Cl.lt {w : World} {bc k : Nat} {σ : HS} (h : Cl w bc σ k) : bc < w.heap.size := by
  obtain ⟨ws, h1, h2⟩ := h
  exact h1.lt
theorem Cl.set {w : World} {bc k : Nat} {σ : HS} (h : Cl w bc σ k) (hk : k < 64) : Cl (w.setCell ⟨bc, k, none⟩ (.int .i64 (pcl σ k))) bc σ (k + 1) := by
  obtain ⟨ws, h1, h2, h4⟩ := h
  refine ⟨ws.set k (pcl σ k), (h1.set k _).of_eq (cells_set ws k _), by simp [h2], fun i hi => ?_⟩
  by_cases e : k = i
  · subst e
    rw [List.getElem?_set_self (by omega)]
  · rw [List.getElem?_set_ne e]
    exact h4 i (by omega)
theorem Cl.at_ {w : World} {bc k i : Nat} {σ : HS} (h : Cl w bc σ k) (hi : i < k) : w.cell? ⟨bc, i, none⟩ = some (.int .i64 (pcl σ i)) := by
  obtain ⟨ws, h1, h2, h4⟩ := h
  exact (h1.cell i).trans (cells_get (h4 i hi))
theorem Cl.free {w : World} {bc k : Nat} {σ : HS} (h : Cl w bc σ k) (i : Nat) : w.frozen? ⟨bc, i, none⟩ = false := by
  obtain ⟨ws, h1, h2, h4⟩ := h
  exact h1.free i
theorem Cl.old {w : World} {bc k i : Nat} {σ : HS} (h : Cl w bc σ k) (hi : i < 64) : ∃ z, w.cell? ⟨bc, i, none⟩ = some (.int .i64 z) := by
  obtain ⟨ws, h1, h2, h4⟩ := h
  exact ⟨ws[i]'(by omega), (h1.cell i).trans (cells_get (List.getElem?_eq_getElem (by omega)))⟩
theorem make64 (W : World) : (Instr.makeSlice 27 (.int .i64 64) (.int .i64 64)).run Tryd.prog W = .ok (.slice (some ⟨W.heap.size, 0, none⟩) 64 64) (W.alloc (.cells (cells (List.replicate 64 0)) 3)) := make_ints 64 (by omega) W
/-- A row of integers of the call's own. -/
def Row (w : World) (z : Nat) (L : List Int) (A : Option Addr) (c : Nat) : Prop := w.ownsRow z 3 1 (.slice A L.length c) L.length (ints' L)
theorem Row.keep {w w' : World} {z : Nat} {L : List Int} {A : Option Addr} {c : Nat} (h : Row w z L A c) (hb : ∀ i, z ≤ i → i < w.heap.size → w'.heap[i]? = w.heap[i]?) : Row w' z L A c := own_block h fun k hk => hb k (h.lt k hk).1 (h.lt k hk).2
theorem Row.at_ {w : World} {z : Nat} {L : List Int} {A : Option Addr} {c : Nat} (h : Row w z L A c) {i : Nat} {x : Int} (hx : L[i]? = some x) : ∃ g, A = some ⟨g, 0, none⟩ ∧ w.cell? ⟨g, i, none⟩ = some (.int .i64 x) := by
  obtain ⟨g, rfl⟩ : ∃ g, A = some ⟨g, 0, none⟩ := by
    rcases h.2 with ⟨_, h⟩ | ⟨g, cap, _, h, _⟩
    · have h1 := (List.getElem?_eq_some_iff.1 hx).1
      exact absurd h (by omega)
    · injection h with h3; exact ⟨g, h3⟩
  have hcell := h.cells (g := g) rfl i (.int .i64 x) (by simp [ints', hx])
  rw [add_form] at hcell
  exact ⟨g, rfl, by simpa using hcell⟩
set_option maxRecDepth 100000 in
set_option maxHeartbeats 2000000 in
theorem core (A : Option Addr) (n c : Nat) (of : List Int) (N : Nat) (cl : Int) (w : World) (hT : Pg.Tab w ∧ Tz.Tab w) (hl : of.length = n) (hR : Reads w w.heap.size 1 A n c (of.map (.int .i64))) (h0 : 1 ≤ n) (h8 : n ≤ 8) (hN : N ≤ 80) :
    Calls Tryd.prog 7 #[.slice A n c, .int .i64 (N : Int), .int .i64 cl] w fun e w' => e = .returned (.bool true) ∧ Below w.heap.size w w' := by
  have HT := Lib.hid hT
  have HL := Lib.hid hl
  have HR := Lib.hid hR
  have H0 := Lib.hid (show 0 < w.heap.size ∧ 1 < w.heap.size from ⟨hT.1.1, hT.2.1⟩)
  have h1' : ¬ (n : Int) < 1 := by omega
  have h2' : ¬ (8 : Int) < (n : Int) := by omega
  have h4' : ¬ (N : Int) < 0 := by omega
  have h5' : ¬ (80 : Int) < (N : Int) := by omega
  have hmm := @run_makeMap Tryd.prog
  clear hT hl hR
  go_enter Tryd.func7, Tryd.ntmps7
  go_wp2_with fail
  refine (alive _ HT.out.1 HT.out.2).mono ?_
  rintro e w1 ⟨rfl, hb1⟩
  have HB1 := Lib.hid hb1
  clear hb1
  dsimp only
  go_wp2_with fail
  refine (Bd.build_any A n c of N _ (HT.out.1.call HB1.out) HL.out ((HR.out.below HB1.out).more HB1.out.size) h0 h8 (by omega) rfl).mono ?_
  rintro e w2 ⟨w0, B, sa, sc, L, A', c', σ, rfl, hb0, hf, hr, hru, hLi, hrs⟩
  have hB0 := fresh_call HB1.out hb0
  have HB0 := Lib.hid hB0
  have HB2 := Lib.hid (show Below w.heap.size w w2 from fresh_call hB0 hf.hw.bel)
  have HW2 := Lib.hid hf.hw
  have h00 : w.heap.size ≤ w0.heap.size := hB0.size
  have hzz : w0.heap.size ≤ B.z := hf.hw.new
  clear hf hr hru hrs hb0 hB0 HB1 HR
  have hfar : ¬ HFoot B σ w2.heap.size := fun e => Nat.lt_irrefl _ (HW2.out.hp.lt e)
  have HFB := Lib.hid hfar
  have hzb : B.z ≤ w2.heap.size := Nat.le_of_lt HW2.out.hp.z_lt
  have HA := Lib.hid (fresh_alloc (Below.refl w2.heap.size w2) (.cells #[.int .u64 0] 86))
  have HW3 := Lib.hid (HW2.out.call HA.out)
  have HB3 := Lib.hid (fresh_call HB2.out HA.out)
  have HR3 := Lib.hid (show BrAt (w2.alloc (.cells #[.int .u64 0] 86)) w2.heap.size 0 from ⟨Blk.new w2 #[.int .u64 0] 86, by decide⟩)
  clear HW2 HB2 HA hfar
  dsimp only
  go_wp2_with fail
  obtain ⟨bb, hbb⟩ : ∃ bb, w2.heap.size = bb := ⟨_, rfl⟩
  rw [hbb] at HFB hzb HR3 ⊢
  generalize w2.alloc (.cells #[.int .u64 0] 86) = w3 at *
  clear hbb
  refine (begin_any bb 0 64 _ HR3.out).mono ?_
  rintro e w4 ⟨rfl, hb4, hk4⟩
  rw [show 2 ^ (min (max (64 : Int) 0) 64).toNat - 1 = 18446744073709551615 by decide] at hb4
  have HW4 := Lib.hid (HW3.out.aside (by have := H0.out.1; omega) hk4 (fun i hi => by cases hi; exact ⟨HFB.out, hzb⟩))
  have HB4 := Lib.hid (show Below w.heap.size w w4 from HB3.out.trans (hk4.below HB3.out.size (fun i hi e => by subst e; omega)))
  have HR4 := Lib.hid hb4
  clear hb4 hk4 HW3 HB3 HR3
  dsimp only
  have hms := make64
  obtain ⟨zs, hzs⟩ : ∃ zs : List Int, List.replicate 64 0 = zs := ⟨_, rfl⟩
  have hzl : zs.length = 64 := by rw [← hzs]; simp
  rw [hzs] at hms
  clear hzs
  have HC5 := Lib.hid (show Cl (w4.alloc (.cells (cells (zs)) 3)) w4.heap.size σ 0 from ⟨zs, Blk.new w4 _ _, hzl, fun i hi => by omega⟩)
  have HA := Lib.hid (fresh_alloc (Below.refl w4.heap.size w4) (.cells (cells (zs)) 3))
  have HW5 := Lib.hid (HW4.out.call HA.out)
  have HB5 := Lib.hid (fresh_call HB4.out HA.out)
  have HR5 := Lib.hid (HR4.out.call HA.out)
  have hbc : bb < w4.heap.size := HR4.out.blk.lt
  have HFC := Lib.hid (show ∀ i, HFoot B σ i → i < w4.heap.size from fun i hi => HW4.out.hp.lt hi)
  have hzw : w.heap.size ≤ w4.heap.size := HB4.out.size
  clear HA HW4 HB4 HR4
  go_wp2_with fail
  obtain ⟨bc, hbe⟩ : ∃ bc, w4.heap.size = bc := ⟨_, rfl⟩
  rw [hbe] at HC5 HFC hbc hzw ⊢
  generalize w4.alloc (.cells (cells (zs)) 3) = w5 at *
  clear hbe hms
  go_loopw [12] (fun kv wr => ∃ k : Nat, k ≤ 64 ∧ kv = .int .i64 (k : Int) ∧ HW w0 wr B (shps of) σ ∧ BrAt wr bb 18446744073709551615 ∧ Cl wr bc σ k ∧ Below w.heap.size w wr) (fun kv _ => 64 - (intOf kv).toNat)
  case atStart => exact ⟨0, by omega, rfl, HW5.out, HR5.out, HC5.out, HB5.out⟩
  case round =>
    clear HW5 HR5 HC5 HB5
    obtain ⟨k, hk, rfl, hw, hr, hc, hb⟩ := hrel
    have HW6 := Lib.hid hw
    have HR6 := Lib.hid hr
    have HC6 := Lib.hid hc
    have HB6 := Lib.hid hb
    clear hw hr hc hb
    by_cases hk64 : k < 64
    · have hk2 : (k : Int) < 64 := by omega
      obtain ⟨rb, hkc⟩ := kcl_pcl σ k
      go_wp2_with fail
      refine (class_any' B (shps of) σ k _ HW6.out.hp).mono ?_
      rw [hkc]
      rintro e w7 ⟨rfl, d, rfl⟩
      have HD := Lib.hid (below_drewN (Below.refl wr.heap.size wr) d)
      have HW7 := Lib.hid (HW6.out.drewN d)
      have HR7 := Lib.hid (show BrAt (wr.drewN d) bb 18446744073709551615 from HR6.out.keep rfl)
      have HC7 := Lib.hid (show Cl (wr.drewN d) bc σ k from HC6.out.keep rfl)
      have HB7 := Lib.hid (show Below w.heap.size w (wr.drewN d) from below_drewN HB6.out d)
      clear HW6 HR6 HC6 HB6 HD hkc
      generalize wr.drewN d = w7 at *
      obtain ⟨z0, hcell⟩ := HC7.out.old hk64
      have hlt := HC7.out.lt
      have hfr := HC7.out.free k
      dsimp only
      go_wp2_with fail
      have hks := (Kept.refl (fun i => i = bc) w7).set (p := ⟨bc, k, none⟩) (.inl rfl) (.int .i64 (pcl σ k))
      have HW8 := Lib.hid (HW7.out.aside (by have := H0.out.1; omega) hks (fun i hi => by cases hi; exact ⟨fun e => Nat.lt_irrefl _ (HFC.out _ e), by omega⟩))
      have HR8 := Lib.hid (HR7.out.keep (hks.block bb HR7.out.blk.lt (by omega)))
      have HC8 := Lib.hid (HC7.out.set hk64)
      have HB8 := Lib.hid (show Below w.heap.size w (w7.setCell ⟨bc, k, none⟩ (.int .i64 (pcl σ k))) from HB7.out.trans (hks.below HB7.out.size (fun i hi e => by subst e; omega)))
      clear hks hcell hlt hfr HW7 HR7 HC7 HB7
      go_roundw
      case rel => exact ⟨k + 1, by omega, by go_num, HW8.out, HR8.out, HC8.out, HB8.out⟩
      case measure => simp [intOf]; omega
    · obtain rfl : k = 64 := by omega
      have hk2 : ¬ ((64 : Nat) : Int) < 64 := by omega
      have HT6 := Lib.hid (HT.out.2.call HB6.out)
      go_wp2_with fail
      refine (left_any bb _ _ HR6.out HT6.out).mono ?_
      obtain ⟨Hd, hHd⟩ : ∃ Hd, lefts 18446744073709551615 = Hd := ⟨_, rfl⟩
      rw [hHd]
      have HHD := Lib.hid hHd
      have hhl : Hd.length ≤ 64 := by rw [← hHd]; decide
      clear hHd
      rintro e w7 ⟨a7, c7, rfl, ho7, hb7⟩
      have HRH := Lib.hid (show Row w7 wr.heap.size Hd a7 c7 from ho7)
      have HW7 := Lib.hid (HW6.out.call hb7)
      have HR7 := Lib.hid (HR6.out.call hb7)
      have HC7 := Lib.hid (HC6.out.keep (hb7.block bc HC6.out.lt))
      have HB7 := Lib.hid (fresh_call HB6.out hb7)
      have HT7 := Lib.hid (HT6.out.call hb7)
      have HLO := Lib.hid (show ∀ i, i = bb ∨ HFoot B σ i → B.z ≤ i ∧ i < bc ∧ i < wr.heap.size from fun i hi => by
        rcases hi with rfl | hi
        · exact ⟨hzb, hbc, HR6.out.blk.lt⟩
        · exact ⟨HW6.out.hp.new i hi, HFC.out i hi, HW6.out.hp.lt hi⟩)
      obtain ⟨z7, hz7⟩ : ∃ z7, wr.heap.size = z7 := ⟨_, rfl⟩
      rw [hz7] at HRH HLO
      clear hz7 ho7 hb7 HW6 HR6 HC6 HB6 HT6
      dsimp only
      go_wp2_with fail
      refine (need_any bb _ B (shps of) σ cl _ HR7.out HW7.out.hp HW7.out.tab HT7.out HFB.out hzb (by have := H0.out.1; omega) (by have := H0.out.2; omega)).mono ?_
      rintro e w8 ⟨b8, U', σ8, rfl, hr8, _, hk8, _, hsub, hcl⟩
      have HR8 := Lib.hid hr8
      have HRH8 := Lib.hid (HRH.out.keep fun i h1 h2 => hk8.block i h2 (fun e => by have := (HLO.out i e).2.2; omega))
      have HC8 := Lib.hid (HC7.out.keep (hk8.block bc HC7.out.lt (fun e => by have := (HLO.out bc e).2.1; omega)))
      have HB8 := Lib.hid (show Below w.heap.size w w8 from HB7.out.trans (hk8.below HB7.out.size (fun i hi e => by have := (HLO.out i e).1; omega)))
      have HT8 := Lib.hid (HT.out.2.call HB8.out)
      have HSUB := Lib.hid hsub
      have HCLS := Lib.hid hcl
      clear hr8 hk8 hsub hcl HW7 HR7 HRH HC7 HB7 HT7
      dsimp only
      go_wp2_with fail
      refine (left_any bb U' _ HR8.out HT8.out).mono ?_
      obtain ⟨Lf, hLf⟩ : ∃ Lf, lefts U' = Lf := ⟨_, rfl⟩
      rw [hLf]
      have HLF := Lib.hid hLf
      have hlfl : Lf.length ≤ 64 := by rw [← hLf]; unfold lefts; rw [List.length_map]; exact Bit.sl_len _ _
      clear hLf
      rintro e w9 ⟨a9, c9, rfl, ho9, hb9⟩
      have hm9 := fresh_alloc (Below.refl w9.heap.size w9) (.map #[] 0)
      have hz89 := hb9.size
      have HRL := Lib.hid (show Row (w9.alloc (.map #[] 0)) w8.heap.size Lf a9 c9 from Row.keep (show Row w9 w8.heap.size Lf a9 c9 from ho9) fun i _ h => hm9.block i h)
      have HRH9 := Lib.hid (((HRH8.out.keep fun i _ h => hb9.block i h).keep fun i _ h => hm9.block i h : Row (w9.alloc (.map #[] 0)) z7 Hd a7 c7))
      have HC9 := Lib.hid (((HC8.out.keep (hb9.block bc HC8.out.lt)).keep (hm9.block bc (HC8.out.keep (hb9.block bc HC8.out.lt)).lt)))
      have HB9 := Lib.hid (fresh_call (fresh_call HB8.out hb9) hm9)
      have HM9 := Lib.hid (show BMap (w9.alloc (.map #[] 0)) w9.heap.size [] (fun x => decide (x ∈ ([] : List Int))) by simpa using BMap.made w9)
      have hwz9 : w.heap.size ≤ w9.heap.size := (fresh_call HB8.out hb9).size
      have hbc9 : bc < w9.heap.size := by have := HC8.out.lt; omega
      clear ho9 hb9 hm9 HRH8 HC8 HB8 HR8 HT8
      dsimp only
      go_wp2_with fail
      obtain ⟨bm, hbm⟩ : ∃ bm, w9.heap.size = bm := ⟨_, rfl⟩
      rw [hbm] at HM9 hwz9 hbc9 ⊢
      generalize w9.alloc (.map #[] 0) = w10 at *
      clear hbm hz89
      obtain ⟨z8, hz8⟩ : ∃ z8, w8.heap.size = z8 := ⟨_, rfl⟩
      rw [hz8] at HRL
      clear hz8
      have HIN := Lib.hid (show ∀ x, x ∈ Lf → ∃ j : Nat, j < 64 ∧ x = (j : Int) from fun x hx => by
        rw [← HLF.out] at hx
        obtain ⟨j, hj, rfl⟩ := List.mem_map.1 hx
        exact ⟨j, (Bit.sl_mem.1 hj).1, rfl⟩)
      go_loopw [16] (fun iv wx => ∃ (i : Nat) (T : List Int), i ≤ Lf.length ∧ iv = .int .i64 (i : Int) ∧ T.length ≤ i ∧ BMap wx bm T (fun x => decide (x ∈ T)) ∧ (∀ x, x ∈ T ↔ x ∈ Lf.take i) ∧ Row wx z8 Lf a9 c9 ∧ Row wx z7 Hd a7 c7 ∧ Cl wx bc σ 64 ∧ Below w.heap.size w wx) (fun iv _ => Lf.length - (intOf iv).toNat)
      case atStart => exact ⟨0, [], Nat.zero_le _, rfl, Nat.le_refl _, HM9.out, fun x => by simp, HRL.out, HRH9.out, HC9.out, HB9.out⟩
      case round =>
        clear HM9 HRL HRH9 HC9 HB9
        obtain ⟨i, T, hi, rfl, hTi, hm, hT, hrl, hrh, hc, hb⟩ := hrel
        have HM := Lib.hid hm
        have HTM := Lib.hid hT
        have HRL := Lib.hid hrl
        have HRH := Lib.hid hrh
        have HC := Lib.hid hc
        have HB := Lib.hid hb
        clear hm hT hrl hrh hc hb
        by_cases hil : i < Lf.length
        · have hil2 : (i : Int) < (Lf.length : Int) := by omega
          obtain ⟨x, hx⟩ : ∃ x, Lf[i]? = some x := ⟨_, List.getElem?_eq_getElem hil⟩
          obtain ⟨g, rfl, hcell⟩ := HRL.out.at_ hx
          obtain ⟨jx, hjx, hxj⟩ := HIN.out x (List.mem_of_getElem? hx)
          have hwf : (Lit.int .i64 x).wf = true := by rw [hxj]; exact Tm.wf_nat hjx
          have HTK := Lib.hid (take_one hx)
          have hmlt := HM.out.lt
          clear hx hxj
          go_wp2_with (first
            | (at_mapUpdate; go_loud (refine wpList_updB rfl _ _ _ rfl x true rfl rfl rfl HM.out (by unfold maxLen; omega) hwf ?_; intro w11 hm11 hg11))
            | fail)
          rw [dec_addT] at hm11
          have hk11 := Kept.of_grown hg11
          have HM11 := Lib.hid hm11
          have HRL11 := Lib.hid (own_block HRL.out fun k hk => hg11.block k (HRL.out.lt k hk).2 (fun e => own_neM HRL.out HM.out (e.symm.trans hk.symm)))
          have HRH11 := Lib.hid (own_block HRH.out fun k hk => hg11.block k (HRH.out.lt k hk).2 (fun e => own_neM HRH.out HM.out (e.symm.trans hk.symm)))
          have HC11 := Lib.hid (HC.out.keep (hg11.block bc HC.out.lt (fun e => by cases e; omega)))
          have HB11 := Lib.hid (show Below w.heap.size w w11 from HB.out.trans (hk11.below HB.out.size (fun i hi e => by cases e; omega)))
          have HTM11 := Lib.hid (show ∀ y, y ∈ addT T x ↔ y ∈ Lf.take (i + 1) from fun y => by
            rw [mem_addT, HTK.out, List.mem_append, List.mem_singleton, HTM.out y]
            exact or_comm)
          clear hm11 hg11 hk11 hcell HM HRL HRH HC HB HTM
          go_wp2_with fail
          go_roundw
          case rel => exact ⟨i + 1, addT T x, by omega, by go_num, by have := addT_len T x; omega, HM11.out, HTM11.out, HRL11.out, HRH11.out, HC11.out, HB11.out⟩
          case measure => simp [intOf]; omega
        · obtain rfl : i = Lf.length := by omega
          have hil2 : ¬ (Lf.length : Int) < (Lf.length : Int) := by omega
          have HTA := Lib.hid (show ∀ x, x ∈ T ↔ x ∈ Lf from fun x => by have := HTM.out x; rwa [List.take_length] at this)
          clear HTM HRL
          go_wp2_with fail
          go_loopw [17] (fun iv wx => ∃ i : Nat, i ≤ Hd.length ∧ iv = .int .i64 (i : Int) ∧ BMap wx bm T (fun x => decide (x ∈ T)) ∧ Row wx z7 Hd a7 c7 ∧ Cl wx bc σ 64 ∧ Below w.heap.size w wx) (fun iv _ => Hd.length - (intOf iv).toNat)
          case atStart => exact ⟨0, Nat.zero_le _, rfl, HM.out, HRH.out, HC.out, HB.out⟩
          case round =>
            clear HM HRH HC HB
            obtain ⟨i, hi, rfl, hm, hrh, hc, hb⟩ := hrel
            have HM := Lib.hid hm
            have HRH := Lib.hid hrh
            have HC := Lib.hid hc
            have HB := Lib.hid hb
            clear hm hrh hc hb
            by_cases hil : i < Hd.length
            · have hil2 : (i : Int) < (Hd.length : Int) := by omega
              obtain ⟨x, hx⟩ : ∃ x, Hd[i]? = some x := ⟨_, List.getElem?_eq_getElem hil⟩
              obtain ⟨g, rfl, hcell⟩ := HRH.out.at_ hx
              obtain ⟨j, hj, rfl⟩ : ∃ j : Nat, j < 64 ∧ x = (j : Int) := by
                have hm := List.mem_of_getElem? hx
                rw [← HHD.out] at hm
                obtain ⟨j, hj, rfl⟩ := List.mem_map.1 hm
                exact ⟨j, (Bit.sl_mem.1 hj).1, rfl⟩
              have hjb : Nat.testBit 18446744073709551615 j = true := by
                have : ∀ j, j < 64 → Nat.testBit 18446744073709551615 j = true := by decide
                exact this j hj
              have hlk := HM.out.look (j : Int) (Tm.wf_nat hj)
              have hcc := HC.out.at_ hj
              have hclt := HC.out.lt
              clear hx
              by_cases hjT : (j : Int) ∈ T
              · rw [decide_eq_true hjT] at hlk
                go_wp2_with fail
                go_roundw
                case rel => exact ⟨i + 1, by omega, by go_num, HM.out, HRH.out, HC.out, HB.out⟩
                case measure => simp [intOf]; omega
              · rw [decide_eq_false hjT] at hlk
                have hU : U'.testBit j = false := by
                  rcases hb : U'.testBit j with _ | _
                  · rfl
                  · exfalso
                    refine hjT ((HTA.out _).2 ?_)
                    rw [← HLF.out]
                    exact List.mem_map.2 ⟨j, Bit.sl_mem.2 ⟨hj, hb⟩, rfl⟩
                have hp := HCLS.out j hjb hU
                rw [hp] at hcc
                have hne : (cl != cl) = false := by rw [bne_eq_false_iff_eq]
                have hj3 : (j : Int) < 64 := by omega
                go_wp2_with fail
                go_roundw
                case rel => exact ⟨i + 1, by omega, by go_num, HM.out, HRH.out, HC.out, HB.out⟩
                case measure => simp [intOf]; omega
            · obtain rfl : i = Hd.length := by omega
              have hil2 : ¬ (Hd.length : Int) < (Hd.length : Int) := by omega
              have hh : Hd.length = 64 := by rw [← HHD.out]; decide
              rw [hh]
              have hle : (Lf.length : Int) ≤ 64 := by omega
              go_wp2_with fail
              go_ret
              exact ⟨rfl, HB.out⟩
theorem walk (A : Option Addr) (n c : Nat) (of : List Int) (N cl : Int) (w : World) (hT : Pg.Tab w ∧ Tz.Tab w) (hl : of.length = n) (_wl : ∀ x ∈ of, (Lit.int .i64 x).wf = true) (hR : Reads w w.heap.size 1 A n c (of.map (.int .i64))) (_w1 : (Lit.int .i64 N).wf = true) (_w2 : (Lit.int .i64 cl).wf = true) :
    Calls Tryd.prog 7 #[.slice A n c, .int .i64 N, .int .i64 cl] w fun e w' => e = .returned (.bool true) ∧ Below w.heap.size w w' := by
  by_cases h : n < 1 ∨ 8 < n ∨ N < 0 ∨ 80 < N
  · exact early A n c N cl w hT h
  · obtain ⟨K, rfl⟩ : ∃ K : Nat, N = (K : Int) := ⟨N.toNat, by omega⟩
    exact core A n c of K cl w hT hl hR (by omega) (by omega) (by omega)
end Go.Proofs.YtoajbjeiplolnaaDoorR.BrushNeeds
