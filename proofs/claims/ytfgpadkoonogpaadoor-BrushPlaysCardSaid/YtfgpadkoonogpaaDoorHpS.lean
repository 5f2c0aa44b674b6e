/- Package besomlaw7: the contract of Shapes. -/
import Derived.Test.YtfgpadkoonogpaaDoorHpA
namespace Go.Proofs.YtfgpadkoonogpaaDoor.Hp
open Go.RowKit Pg Ar Tm
set_option linter.unusedSimpArgs false
set_option linter.unusedVariables false

def fld (x : Int) (i n k : Nat) : Int := if (wrap64 (x + (k : Int))).tmod 2 = 0 then 16 + (((k * 7 + i) % n : Nat) : Int) else 1
def cnt (x : Int) : Nat := ((wrap64 (x.tmod 16 + 16)).tmod 16).toNat + 1
theorem cnt_is (x : Int) : ∃ j : Nat, j < 16 ∧ (wrap64 (x.tmod 16 + 16)).tmod 16 = (j : Int) ∧ cnt x = j + 1 := by
  obtain ⟨j, h1, h2⟩ := Bit.idx x 16 (by omega) (by omega)
  have h2 : (wrap64 (x.tmod 16 + 16)).tmod 16 = (j : Int) := h2
  exact ⟨j, h1, h2, by unfold cnt; rw [h2]; simp⟩
def shp1 (x : Int) (i n : Nat) : List Int := (List.range (cnt x)).map (fld x i n)
def shps (of : List Int) : List (List Int) := (List.range of.length).map fun i => shp1 (of.getD i 0) i of.length
theorem shp1_len (x : Int) (i n : Nat) : (shp1 x i n).length = cnt x := by simp [shp1]
theorem shp1_at {x : Int} {i n k : Nat} (h : k < cnt x) : (shp1 x i n)[k]? = some (fld x i n k) := by simp [shp1, h]
theorem shps_len (of : List Int) : (shps of).length = of.length := by simp [shps]
theorem shps_at {of : List Int} {i : Nat} {x : Int} (h : of[i]? = some x) : (shps of)[i]? = some (shp1 x i of.length) := by
  obtain ⟨hi, rfl⟩ := List.getElem?_eq_some_iff.1 h
  simp [shps, hi, List.getD]
theorem fld_kind (x : Int) (i k : Nat) {n : Nat} (hn : 0 < n) : fld x i n k = 1 ∨ (16 ≤ fld x i n k ∧ fld x i n k < 16 + (n : Int)) := by
  unfold fld
  split
  · right
    have := Nat.mod_lt (k * 7 + i) hn
    omega
  · exact .inl rfl
theorem shps_kind {of : List Int} (hn : 0 < of.length) : ∀ l ∈ shps of, (1 ≤ l.length ∧ l.length ≤ 16) ∧ ∀ z ∈ l, z = 1 ∨ (16 ≤ z ∧ z < 16 + (of.length : Int)) := by
  intro l hl
  obtain ⟨i, hi, rfl⟩ := List.mem_map.1 hl
  refine ⟨?_, ?_⟩
  · rw [shp1_len]
    obtain ⟨j, h1, _, h3⟩ := cnt_is (of.getD i 0)
    omega
  · intro z hz
    obtain ⟨k, _, rfl⟩ := List.mem_map.1 hz
    exact fld_kind _ _ _ hn
theorem chkL_zero (n : Int) : ∀ ls : List (List Int), (∀ l ∈ ls, Shp.chk1 n l = 0) → Shp.chkL n ls = 0
  | [], _ => rfl
  | l :: r, h => by
    unfold Shp.chkL
    rw [if_pos (h l (by simp))]
    exact chkL_zero n r fun x hx => h x (by simp [hx])
theorem shps_chk {of : List Int} (h0 : 0 < of.length) (h8 : of.length ≤ 8) : Shp.chk (shps of) = 0 := by
  unfold Shp.chk
  rw [shps_len, if_neg (by omega)]
  refine chkL_zero _ _ fun l hl => ?_
  obtain ⟨h1, h2⟩ := shps_kind h0 l hl
  unfold Shp.chk1
  rw [if_neg (by omega), if_pos]
  unfold Shp.chkF
  rw [List.all_eq_true]
  intro z hz
  rw [decide_eq_true_eq]
  unfold Shp.kof Shp.kd
  rw [if_pos (by omega), if_pos]
  · omega
  · rcases h2 z hz with h | h
    · exact .inl h
    · exact .inr (.inl (by omega))
theorem shps_wf {of : List Int} (h8 : of.length ≤ 8) : ∀ l ∈ shps of, ∀ z ∈ l, (Lit.int .i64 z).wf = true := by
  intro l hl z hz
  rcases Nat.eq_zero_or_pos of.length with h | h
  · simp [shps, h] at hl
  · have := (shps_kind h l hl).2 z hz
    exact Shp.wf_i64 (by omega)
theorem step_fld {n k i : Nat} (hn : 0 < n) (hk : k ≤ 16) (hi : i ≤ 8) (h8 : n ≤ 8) : ((k : Int) * 7 + (i : Int)).tmod (n : Int) = (((k * 7 + i) % n : Nat) : Int) := by
  rw [Int.tmod_eq_emod_of_nonneg (by omega), show (k : Int) * 7 + (i : Int) = ((k * 7 + i : Nat) : Int) by omega]
  exact (Int.natCast_emod _ _).symm
set_option maxRecDepth 100000 in
set_option maxHeartbeats 2000000 in
theorem shapes_any (A : Option Addr) (n c : Nat) (of : List Int) (w : World) (hl : of.length = n) (h8 : n ≤ 8) (hR : Reads w w.heap.size 1 A n c (of.map (.int .i64))) :
    Calls Tryd.prog 78 #[.slice A n c] w fun e w' => ∃ v, e = .returned v ∧ ShR w' w.heap.size v (shps of).length (shps of) ∧ Below w.heap.size w w' := by
  have HR := Lib.hid hR
  have HL := Lib.hid hl
  have HI := Lib.hid (info_parts Book.infoI)
  have HIS := Lib.hid (info_parts infoSh)
  have h88 : (n : Int) ≤ 8 := by omega
  clear hR hl
  go_enter Tryd.func78, Tryd.ntmps78
  go_wp2_with fail
  go_loopw [3, 4, 5, 6] (fun v iv _ _ wr => ∃ i : Nat, i ≤ n ∧ iv = .int .i64 (i : Int) ∧ ShR wr w.heap.size v i (shps of) ∧ Below w.heap.size w wr) (fun _ iv _ _ _ => n - (intOf iv).toNat)
  case atStart => exact ⟨0, Nat.zero_le _, rfl, ⟨none, 0, [], rfl, World.ownsRow_nil _ _ _ _, fun i l hi => by omega⟩, Below.refl _ _⟩
  case round =>
    obtain ⟨i, hi, rfl, ⟨a, c2, vs, rfl, ho, hall⟩, hbe⟩ := hrel
    have HO := Lib.hid ho
    have HAL := Lib.hid hall
    have HBE := Lib.hid hbe
    have hz := hbe.size
    clear ho hall hbe
    obtain ⟨wo, rfl⟩ : ∃ wo : World, wo = wr := ⟨_, rfl⟩
    by_cases hlt : i < n
    · have hlt2 : (i : Int) < (n : Int) := by omega
      have hlt8 : (i : Int) < 8 := by omega
      have hi0 : (0 : Int) ≤ (i : Int) := by omega
      obtain ⟨x, hx⟩ : ∃ x, of[i]? = some x := ⟨_, List.getElem?_eq_getElem (by have := HL.out; omega)⟩
      obtain ⟨rb, ro, rfl, hrb, hrc⟩ := HR.out.at_ (j := i) (u := .int .i64 x) (by simp [hx])
      have HRC := Lib.hid hrc
      have HX := Lib.hid hx
      obtain ⟨j, hj16, hjx, hjc⟩ := cnt_is x
      have HJX := Lib.hid hjx
      have HJC := Lib.hid hjc
      clear hx hrc hjx hjc
      go_wp2_with fail
      go_loopw [5, 6] (fun fv kv wr => ∃ (k : Nat) (a5 : Option Addr) (c5 : Nat), k ≤ j + 1 ∧ kv = .int .i64 (k : Int) ∧ fv = .slice a5 k c5 ∧ wr.ownsRow wo.heap.size 3 1 (.slice a5 k c5) k (((shp1 x i n).take k).map (.int .i64)) ∧ Below wo.heap.size wo wr) (fun _ kv _ => j + 1 - (intOf kv).toNat)
      case atStart => exact ⟨0, none, 0, Nat.zero_le _, rfl, rfl, World.ownsRow_nil _ _ _ _, Below.refl _ _⟩
      case round =>
        obtain ⟨k, a5, c5, hk, rfl, rfl, ho5, hb5⟩ := hrel
        have HO5 := Lib.hid ho5
        have HB5 := Lib.hid hb5
        have hz5 := hb5.size
        have hrw := (HBE.out.trans (hb5.mono hz)).cell (p := ⟨rb, ro + i, none⟩) hrb |>.trans HRC.out
        clear ho5 hb5
        by_cases hkj : k ≤ j
        · have hkj2 : (k : Int) ≤ (j : Int) := by omega
          have hjx := HJX.out
          have HT := Lib.hid (show (shp1 x i n).take (k + 1) = (shp1 x i n).take k ++ [fld x i n k] by rw [List.take_add_one, shp1_at (by have := HJC.out; omega)]; rfl)
          by_cases hev : (wrap64 (x + (k : Int))).tmod 2 = 0
          · have hb0 : ((wrap64 (x + (k : Int))).tmod 2 == 0) = true := by simpa using hev
            have HF := Lib.hid (show fld x i n k = 16 + (((k * 7 + i) % n : Nat) : Int) by unfold fld; rw [if_pos hev])
            have hmod := step_fld (n := n) (k := k) (i := i) (by omega) (by omega) (by omega) h8
            have hn0 : ((n : Int) == 0) = false := by simp; omega
            obtain ⟨r, hr⟩ : ∃ r, (k * 7 + i) % n = r := ⟨_, rfl⟩
            have hr8 : r < 8 := by rw [← hr]; have := Nat.mod_lt (k * 7 + i) (show n > 0 by omega); omega
            rw [hr] at HF hmod
            clear hev hr
            go_wp2_with (first
              | simp only [hjx]
              | simp only [hmod]
              | (at_builtin; go_loud (refine wpList_app _ rfl _ _ 27 rfl wo.heap.size 3 HI.out.choose (.int .i64 0) 1 8 Tryd.underlying27 HI.out.choose_spec.1 HI.out.choose_spec.2.1 HI.out.choose_spec.2.2.1 HI.out.choose_spec.2.2.2 rfl (by decide) _ _ _ rfl (HO5.out.alloc _) (wr.heap.size + 1) _ 1 1 [.int .i64 (16 + (r : Int))] rfl (Blk.reads (Blk.new wr _ _) (by simp) rfl rfl (by decide)) ?a1 ?a2 ?a3 ?a4 ?_))
              | fail)
            case a1 => intro u hu; simp at hu; subst hu; rfl
            case a2 => unfold maxLen; omega
            case a3 => omega
            case a4 => simp; omega
            intro a7 c7 w7 ho7 hg7 hat7
            have HO7 := Lib.hid (show w7.ownsRow wo.heap.size 3 1 (.slice a7 (k + 1) c7) (k + 1) (((shp1 x i n).take (k + 1)).map (.int .i64)) by rw [HT.out, HF.out]; simpa using ho7)
            have HB7 := Lib.hid (show Below wo.heap.size wo w7 from (HB5.out.alloc hz5 _).grown hg7 (by simp; omega) (fun m hm => (HO5.out.lt m hm).1))
            clear ho7 hg7 hat7
            go_wp2_with fail
            go_roundw
            case rel => exact ⟨k + 1, a7, c7, by omega, by go_num, rfl, HO7.out, HB7.out⟩
            case measure => simp [intOf]; omega
          · have hb0 : ((wrap64 (x + (k : Int))).tmod 2 == 0) = false := by simpa using hev
            have HF := Lib.hid (show fld x i n k = 1 by unfold fld; rw [if_neg hev])
            clear hev
            go_wp2_with (first
              | simp only [hjx]
              | (at_builtin; go_loud (refine wpList_app _ rfl _ _ 27 rfl wo.heap.size 3 HI.out.choose (.int .i64 0) 1 8 Tryd.underlying27 HI.out.choose_spec.1 HI.out.choose_spec.2.1 HI.out.choose_spec.2.2.1 HI.out.choose_spec.2.2.2 rfl (by decide) _ _ _ rfl (HO5.out.alloc _) (wr.heap.size + 1) _ 1 1 [.int .i64 1] rfl (Blk.reads (Blk.new wr _ _) (by simp) rfl rfl (by decide)) ?b1 ?b2 ?b3 ?b4 ?_))
              | fail)
            case b1 => intro u hu; simp at hu; subst hu; rfl
            case b2 => unfold maxLen; omega
            case b3 => omega
            case b4 => simp; omega
            intro a7 c7 w7 ho7 hg7 hat7
            have HO7 := Lib.hid (show w7.ownsRow wo.heap.size 3 1 (.slice a7 (k + 1) c7) (k + 1) (((shp1 x i n).take (k + 1)).map (.int .i64)) by rw [HT.out, HF.out]; simpa using ho7)
            have HB7 := Lib.hid (show Below wo.heap.size wo w7 from (HB5.out.alloc hz5 _).grown hg7 (by simp; omega) (fun m hm => (HO5.out.lt m hm).1))
            clear ho7 hg7 hat7
            go_wp2_with fail
            go_roundw
            case rel => exact ⟨k + 1, a7, c7, by omega, by go_num, rfl, HO7.out, HB7.out⟩
            case measure => simp [intOf]; omega
        · have hkj2 : ¬ (k : Int) ≤ (j : Int) := by omega
          obtain rfl : k = j + 1 := by omega
          have hjx := HJX.out
          have HSH := Lib.hid (show (shp1 x i n).take (j + 1) = shp1 x i n from List.take_of_length_le (by rw [shp1_len, HJC.out]; omega))
          have HSL := Lib.hid (show (shp1 x i n).length = j + 1 by rw [shp1_len, HJC.out])
          have HOW := Lib.hid (own_block HO.out fun m e => HB5.out.block m (HO.out.lt m e).2)
          have HALW := Lib.hid (show ∀ i' l, i' < i → (shps of)[i']? = some l → ∃ A' c', vs[i']? = some (.slice A' l.length c') ∧ wr.ownsRow w.heap.size 3 1 (.slice A' l.length c') l.length (l.map (.int .i64)) from fun i' l hi' hl' => by
            obtain ⟨A', c', h1, h2⟩ := HAL.out i' l hi' hl'
            exact ⟨A', c', h1, own_block h2 fun m e => HB5.out.block m (h2.lt m e).2⟩)
          have HBW := Lib.hid (HBE.out.trans (HB5.out.mono hz))
          have hzw := HBW.out.size
          go_wp2_with (first
            | simp only [hjx]
            | (at_builtin; go_loud (refine wpList_app _ rfl _ _ 73 rfl w.heap.size 64 HIS.out.choose (.agg #[.slice none 0 0]) 1 24 Tryd.underlying73 HIS.out.choose_spec.1 HIS.out.choose_spec.2.1 HIS.out.choose_spec.2.2.1 HIS.out.choose_spec.2.2.2 rfl (by decide) _ _ _ rfl (HOW.out.alloc _) (wr.heap.size + 1) _ 1 1 [.slice a5 (j + 1) c5] rfl (Blk.reads (Blk.new wr _ _) (by simp) rfl rfl (by decide)) ?c1 ?c2 ?c3 ?c4 ?_))
            | fail)
          case c1 => first | rfl | (intro u hu; simp at hu; subst hu; rfl)
          case c2 => unfold maxLen; omega
          case c3 => omega
          case c4 => first | omega | (simp; omega)
          intro a7 c7 w7 ho7 hg7 hat7
          have hki : Book.KeepsInts wr w7 := (Book.KeepsInts.below ((Below.refl _ _).alloc (Nat.le_refl _) (.cells #[.slice a5 (j + 1) c5] 64))).trans (Book.KeepsInts.grown hg7 (HOW.out.alloc _) (by decide))
          have HB7 := Lib.hid (show Below w.heap.size w w7 from (HBW.out.alloc hzw _).grown hg7 (by simp; omega) (fun m hm => (HOW.out.lt m hm).1))
          have HS7 := Lib.hid (show ShR w7 w.heap.size (.slice a7 (i + 1) c7) (i + 1) (shps of) from ⟨a7, c7, vs ++ [.slice a5 (j + 1) c5], rfl, by simpa using ho7, fun i' l hi' hl' => by
            have hvl : vs.length = i := by have := HO.out.1; omega
            by_cases hii : i' < i
            · obtain ⟨A', c', h1, h2⟩ := HALW.out i' l hii hl'
              exact ⟨A', c', by rw [List.getElem?_append_left (by omega)]; exact h1, hki _ _ _ _ h2⟩
            · obtain rfl : i' = i := by omega
              rw [shps_at HX.out, HL.out] at hl'
              have hl' := Option.some.inj hl'
              subst hl'
              refine ⟨a5, c5, by rw [List.getElem?_append_right (by omega), hvl, HSL.out]; simp, ?_⟩
              rw [HSL.out]
              have h := hki _ _ _ _ HO5.out
              rw [HSH.out] at h
              exact Book.own_base h hz⟩)
          clear ho7 hg7 hat7 hki
          go_wp2_with fail
          go_roundw
          case rel => exact ⟨i + 1, by omega, by go_num, HS7.out, HB7.out⟩
          case measure => simp [intOf]; omega
    · obtain rfl : i = n := by omega
      have hlt2 : ¬ (i : Int) < (i : Int) := by omega
      go_wp2_with fail
      go_ret
      refine ⟨_, rfl, ?_, HBE.out⟩
      rw [shps_len, HL.out]
      exact ⟨a, c2, vs, rfl, HO.out, HAL.out⟩
end Go.Proofs.YtfgpadkoonogpaaDoor.Hp
