/- The walk of besomlaw4.ShapeOne: it returns true, and writes nothing that was there. -/
import Derived.Test.YtpdleckflcangaaShpW
namespace Go.Proofs.Ytpdleckflcangaa.ShapeOne
open Go.RowKit Shp Book
set_option linter.unusedSimpArgs false
set_option linter.unusedVariables false

def okF (n : Nat) (l : List Int) : Bool := decide (1 ≤ l.length) && decide (l.length ≤ 16) && chkF n l
def okS (n : Nat) (ls : List (List Int)) (k : Nat) : Bool := decide (n ≤ 16) && (ls.take k).all (okF n)
def sumL (ls : List (List Int)) (k : Nat) : Nat := ((ls.take k).map List.length).sum
theorem okS_next {n k : Nat} {ls : List (List Int)} {l : List Int} (h : ls[k]? = some l) : okS n ls (k + 1) = (okS n ls k && okF n l) := by
  obtain ⟨hk, rfl⟩ := List.getElem?_eq_some_iff.1 h
  unfold okS
  rw [List.take_succ_eq_append_getElem hk, List.all_append]
  simp [Bool.and_assoc]
theorem sumL_next {k : Nat} {ls : List (List Int)} {l : List Int} (h : ls[k]? = some l) : sumL ls (k + 1) = sumL ls k + l.length := by
  obtain ⟨hk, rfl⟩ := List.getElem?_eq_some_iff.1 h
  unfold sumL
  rw [List.take_succ_eq_append_getElem hk, List.map_append, List.sum_append]
  simp
theorem sumL_le {ls : List (List Int)} {k : Nat} (h : ∀ l ∈ ls.take k, l.length ≤ 40) : sumL ls k ≤ 40 * k := by
  induction k with
  | zero => simp [sumL]
  | succ k ih =>
    by_cases hk : k < ls.length
    · rw [sumL_next (List.getElem?_eq_getElem hk)]
      have h1 := ih fun l hl => h l (by rw [List.take_succ_eq_append_getElem hk]; exact List.mem_append_left _ hl)
      have h2 := h ls[k] (by rw [List.take_succ_eq_append_getElem hk]; exact List.mem_append_right _ (List.mem_singleton.2 rfl))
      omega
    · have e : ls.take (k + 1) = ls.take k := by rw [List.take_of_length_le (by omega), List.take_of_length_le (by omega)]
      unfold sumL at *
      rw [e]
      have := ih (by rw [← e]; exact h)
      omega
theorem chk1_ok (n : Nat) (l : List Int) : (chk1 n l = 0) ↔ okF n l = true := by
  unfold chk1 okF
  by_cases h1 : l.length < 1 ∨ 16 < l.length
  · rw [if_pos h1]
    simp
    omega
  · rw [if_neg h1]
    cases h : chkF (n : Int) l
    · simp
    · simp
      omega
theorem chkL_ok (n : Nat) (ls : List (List Int)) : (chkL n ls = 0) ↔ ls.all (okF n) = true := by
  induction ls with
  | nil => simp [chkL]
  | cons l ls ih =>
    unfold chkL
    rw [List.all_cons]
    by_cases h : chk1 n l = 0
    · rw [if_pos h, ih, (chk1_ok n l).1 h]
      simp
    · rw [if_neg h]
      have : okF n l = false := by
        cases h2 : okF n l
        · rfl
        · exact absurd ((chk1_ok n l).2 h2) h
      simp [h, this]
theorem chk_ok (ls : List (List Int)) : (chk ls == 0) = okS ls.length ls ls.length := by
  unfold chk okS
  rw [List.take_length]
  by_cases h : 16 < ls.length
  · rw [if_pos h]
    simp
    omega
  · rw [if_neg h]
    have := chkL_ok ls.length ls
    rw [show decide (ls.length ≤ 16) = true by simp; omega, Bool.true_and]
    cases h2 : ls.all (okF ls.length)
    · simp [h2] at this ⊢
      simpa using this
    · simp [h2] at this ⊢
      exact this

def RelA (n : Nat) (ls : List (List Int)) (w : World) (o s i : Value) (wr : World) : Prop :=
  ∃ k : Nat, k ≤ n ∧ i = .int .i64 k ∧ o = .bool (okS n ls k) ∧ s = .int .i64 (sumL ls k) ∧ (∀ l ∈ ls.take k, l.length ≤ 40) ∧ Below w.heap.size w wr

theorem early (A : Option Addr) (n c : Nat) (w : World) (hm : n ≤ 9223372036854775807) (h : 20 < n) :
    Calls Try.prog 7 #[.slice A n c] w fun e w' => e = .returned (.bool true) ∧ Below w.heap.size w w' := by
  go_enter Try.func7, Try.ntmps7
  go_wp2_with fail
  refine (alive _).mono ?_
  rintro e w1 ⟨rfl, hb1⟩
  dsimp only
  go_wp2_with fail
  go_ret
  exact ⟨rfl, hb1⟩

set_option maxRecDepth 100000 in
set_option maxHeartbeats 4000000 in
theorem core (A : Option Addr) (n c : Nat) (ls : List (List Int)) (w : World) (h : RS w w.heap.size A n c ls) (hn : n ≤ 20) :
    Calls Try.prog 7 #[.slice A n c] w fun e w' => e = .returned (.bool true) ∧ Below w.heap.size w w' := by
  have HR := Lib.hid h
  have HN := Lib.hid h.1
  clear h
  go_enter Try.func7, Try.ntmps7
  go_wp2_with fail
  refine (alive _).mono ?_
  rintro e w1 ⟨rfl, hb1⟩
  have H0 := Lib.hid (show RelA n ls w (.bool (decide ((n : Int) ≤ 16))) (.int .i64 0) (.int .i64 0) w1 from ⟨0, Nat.zero_le _, rfl, congrArg Value.bool (by unfold okS; simp; try omega), rfl, by simp, hb1⟩)
  clear hb1
  dsimp only
  go_wp2_with fail
  go_loopw [3, 4, 5] (fun o s i wr => RelA n ls w o s i wr) (fun _ _ i _ => n - (intOf i).toNat)
  case atStart => exact H0.out
  case round =>
    clear H0
    obtain ⟨k, hk, rfl, rfl, rfl, hall, hw⟩ := hrel
    have HA := Lib.hid hall
    clear hall
    by_cases hlt : k < n
    · have hkl : k < ls.length := by have := HN.out; omega
      have hlk : ls[k]? = some ls[k] := List.getElem?_eq_getElem hkl
      obtain ⟨b, off, A', c', rfl, hbb, hcell, hRI, hwf⟩ := (HR.out.keep hw).2.2.2 k _ hlk
      have HE := Lib.hid (okS_next (n := n) hlk)
      have HS := Lib.hid (sumL_next hlk)
      have hsl := sumL_le HA.out
      have HTK := Lib.hid (show ls.take (k + 1) = ls.take k ++ [ls[k]] from List.take_succ_eq_append_getElem hkl)
      have HW1 := Lib.hid (show wd1 ls k = ls[k].length by unfold wd1; rw [if_pos (by omega), Int.toNat_natCast, hlk]; rfl)
      generalize ls[k] = l at *
      have HL := Lib.hid hRI
      have HWF := Lib.hid hwf
      have hlm : l.length ≤ 9223372036854775807 := by have := hRI.2.1; have := hRI.2.2.1; unfold maxLen at this; omega
      clear hRI hwf hlk
      generalize hsum : sumL ls k = S at *
      have HSUM := Lib.hid hsum
      clear hsum
      by_cases h40 : 40 < l.length
      · generalize okS n ls k = o at *
        go_wp2_with fail
        go_ret
        exact ⟨rfl, hw⟩
      generalize hok : okS n ls k = o at *
      have HOK := Lib.hid hok
      clear hok
      have hc : (o = true ∧ 1 ≤ l.length ∧ l.length ≤ 16) ∨ o = false ∨ (o = true ∧ l.length < 1) ∨ (o = true ∧ 16 < l.length) := by
        rcases o with _ | _
        · exact .inr (.inl rfl)
        · by_cases h1 : l.length < 1
          · exact .inr (.inr (.inl ⟨rfl, h1⟩))
          · by_cases h2 : 16 < l.length
            · exact .inr (.inr (.inr ⟨rfl, h2⟩))
            · exact .inl ⟨rfl, by omega, by omega⟩
      rcases hc with ⟨rfl, h1, h2⟩ | rfl | ⟨rfl, h1⟩ | ⟨rfl, h1⟩
      · have HX := Lib.hid (show okS n ls (k + 1) = l.all (fun z => decide (0 < kof n false z)) by rw [HE.out]; unfold okF chkF; simp [h1, h2])
        go_wp2_with fail
        go_loop [3, 6] (fun o j => ∃ q : Nat, q ≤ l.length ∧ j = .int .i64 q ∧ o = .bool ((l.take q).all fun z => decide (0 < kof n false z))) (fun _ j => l.length - (intOf j).toNat)
        case atStart => exact ⟨0, Nat.zero_le _, rfl, congrArg Value.bool (by simp; omega)⟩
        case round =>
          obtain ⟨q, hq, rfl, rfl⟩ := hrel
          by_cases hql : q < l.length
          · have hlq : l[q]? = some l[q] := List.getElem?_eq_getElem hql
            obtain ⟨b2, o2, rfl, hb2, hc2⟩ := HL.out.at_ hlq
            have HT := Lib.hid (show (l.take (q + 1)).all (fun z => decide (0 < kof n false z)) = ((l.take q).all (fun z => decide (0 < kof n false z)) && decide (0 < kof n false l[q])) by rw [List.take_succ_eq_append_getElem hql, List.all_append]; simp)
            generalize ((l.take q).all fun z => decide (0 < kof n false z)) = X at *
            generalize l[q] = z at *
            clear hlq
            cases X
            · go_wp2_with fail
              refine ⟨⟨q + 1, by omega, by go_num, ?_⟩, by simp [intOf]; omega⟩
              rw [HT.out]
              rfl
            · go_wp2_with fail
              refine (rfield_any _ _ _).mono ?_
              rintro e w3 ⟨rfl, rfl⟩
              dsimp only
              generalize decide (0 < kof n false z) = Y at *
              go_wp2_with fail
              refine ⟨⟨q + 1, by omega, by go_num, ?_⟩, by simp [intOf]; omega⟩
              rw [HT.out, Bool.true_and]
          · have hql' : q = l.length := by omega
            subst hql'
            rw [List.take_length]
            generalize (l.all fun z => decide (0 < kof n false z)) = X at *
            go_wp2_with fail
            have HB := Lib.hid (Blk.new wr #[Value.int IntKind.i64 k] 3)
            have hw2 := fresh_alloc hw (.cells #[Value.int IntKind.i64 k] 3)
            have HR2 := Lib.hid (HR.out.keep hw2)
            generalize wr.alloc (.cells #[Value.int IntKind.i64 k] 3) = w2 at *
            refine (words_any w2 w.heap.size w2.heap.size _ _ _ _ 1 1 ls [(k : Int)] HR2.out ⟨rfl, HB.out.reads HB.out.lt rfl rfl (by unfold maxLen; omega)⟩ ?_ (by omega)).mono ?_
            · intro z hz
              have : z = k := by simpa using hz
              rw [this, HW1.out]
              omega
            have h0 : wdT ls [(k : Int)] 1 = l.length := by simp [wdT, HW1.out]
            rw [h0]
            clear h0
            rintro e w5 ⟨rfl, rfl⟩
            dsimp only
            go_wp2_with fail
            refine ⟨⟨k + 1, by omega, by go_num, by rw [HX.out], by rw [HS.out]; go_num, ?_, hw2⟩, by simp [intOf]; omega⟩
            intro y hy
            rw [HTK.out] at hy
            rcases List.mem_append.1 hy with hy | hy
            · exact HA.out y hy
            · rw [List.mem_singleton.1 hy]; omega
      all_goals
        have HX := Lib.hid (show okS n ls (k + 1) = false by rw [HE.out]; unfold okF; simp; try omega)
        go_wp2_with fail
        go_loop [3, 6] (fun o j => ∃ q : Nat, q ≤ l.length ∧ j = .int .i64 q ∧ o = .bool false) (fun _ j => l.length - (intOf j).toNat)
        case atStart => exact ⟨0, Nat.zero_le _, rfl, by first | rfl | exact congrArg Value.bool (by simp; omega)⟩
        case round =>
          obtain ⟨q, hq, rfl, rfl⟩ := hrel
          by_cases hql : q < l.length
          · first
              | (exfalso; omega)
              | (go_wp2_with fail
                 exact ⟨⟨q + 1, by omega, by go_num, rfl⟩, by simp [intOf]; omega⟩)
          · have hql' : q = l.length := by omega
            subst hql'
            go_wp2_with fail
            have HB := Lib.hid (Blk.new wr #[Value.int IntKind.i64 k] 3)
            have hw2 := fresh_alloc hw (.cells #[Value.int IntKind.i64 k] 3)
            have HR2 := Lib.hid (HR.out.keep hw2)
            generalize wr.alloc (.cells #[Value.int IntKind.i64 k] 3) = w2 at *
            refine (words_any w2 w.heap.size w2.heap.size _ _ _ _ 1 1 ls [(k : Int)] HR2.out ⟨rfl, HB.out.reads HB.out.lt rfl rfl (by unfold maxLen; omega)⟩ ?_ (by omega)).mono ?_
            · intro z hz
              have : z = k := by simpa using hz
              rw [this, HW1.out]
              omega
            have h0 : wdT ls [(k : Int)] 1 = l.length := by simp [wdT, HW1.out]
            rw [h0]
            clear h0
            rintro e w5 ⟨rfl, rfl⟩
            dsimp only
            go_wp2_with fail
            refine ⟨⟨k + 1, by omega, by go_num, by rw [HX.out], by rw [HS.out]; go_num, ?_, hw2⟩, by simp [intOf]; omega⟩
            intro y hy
            rw [HTK.out] at hy
            rcases List.mem_append.1 hy with hy | hy
            · exact HA.out y hy
            · rw [List.mem_singleton.1 hy]; omega
    · have hkn : k = n := by omega
      subst hkn
      have hsl := sumL_le HA.out
      have HSUM := Lib.hid (show sumL ls k = sumL ls k from rfl)
      generalize hS : sumL ls k = S at *
      have HS := Lib.hid hS
      clear hS
      have HCK := Lib.hid (show (chk ls == 0) = okS k ls k by have := chk_ok ls; rw [HN.out] at this; exact this)
      generalize okS k ls k = o at *
      go_wp2_with fail
      go_loop [7, 8] (fun o i => ∃ q : Nat, q ≤ k ∧ i = .int .i64 q ∧ o = .int .i64 (sumL ls q)) (fun _ i => k - (intOf i).toNat)
      case atStart => exact ⟨0, Nat.zero_le _, rfl, rfl⟩
      case round =>
        obtain ⟨q, hq, rfl, rfl⟩ := hrel
        by_cases hql : q < k
        · have hqls : q < ls.length := by have := HN.out; omega
          have hlq : ls[q]? = some ls[q] := List.getElem?_eq_getElem hqls
          obtain ⟨b, off, A', c', rfl, hbb, hcell, hRI, hwf⟩ := (HR.out.keep hw).2.2.2 q _ hlq
          have HQ := Lib.hid (sumL_next hlq)
          have hq1 := sumL_le (ls := ls) (k := q) fun l hl => HA.out l (List.take_subset_take_left _ (by omega) hl)
          have hq2 := HA.out ls[q] (List.mem_take_iff_getElem.2 ⟨q, by have := HN.out; omega, rfl⟩)
          generalize ls[q] = l at *
          generalize hT : sumL ls q = T at *
          have HT := Lib.hid hT
          clear hRI hwf hlq hT
          go_wp2_with fail
          refine ⟨⟨q + 1, by omega, by go_num, ?_⟩, by simp [intOf]; omega⟩
          rw [HQ.out]
          go_num
        · have hqk : q = k := by omega
          subst hqk
          rw [HS.out]
          go_wp2_with fail
          refine (check_any wr _ _ _ _ ((HR.out.keep hw).more hw.size)).mono ?_
          rintro e w3 ⟨rfl, hb3⟩
          have hw3 := fresh_call hw hb3
          have HR3 := Lib.hid (HR.out.keep (hw3.alloc hw3.size (.cells #[Value.int IntKind.i64 (-1), Value.int IntKind.i64 q] 3)))
          have hw4 := fresh_alloc hw3 (.cells #[Value.int IntKind.i64 (-1), Value.int IntKind.i64 q] 3)
          have HB4 := Lib.hid (Blk.new w3 #[Value.int IntKind.i64 (-1), Value.int IntKind.i64 q] 3)
          clear hb3
          dsimp only
          have hck := HCK.out
          generalize hcv : chk ls = cv at *
          clear hcv
          rcases o with _ | _
          all_goals
            have hck2 : (cv != 0) = !(cv == 0) := rfl
            rw [hck] at hck2
            go_wp2_with fail
            generalize w3.alloc (.cells #[Value.int IntKind.i64 (-1), Value.int IntKind.i64 q] 3) = w4 at *
            refine (words_any w4 w.heap.size w4.heap.size _ _ _ _ 2 2 ls [-1, q] HR3.out ⟨rfl, HB4.out.reads HB4.out.lt rfl rfl (by unfold maxLen; omega)⟩ ?_ (by omega)).mono ?_
            · intro z hz
              have : z = -1 ∨ z = q := by simpa using hz
              unfold wd1
              rw [if_neg (by have := HN.out; omega)]
              omega
            have h0 : wdT ls [-1, (q : Int)] 2 = 0 := by
              have a1 : wd1 ls (-1) = 0 := by unfold wd1; rw [if_neg (by omega)]
              have a2 : wd1 ls q = 0 := by unfold wd1; rw [if_neg (by have := HN.out; omega)]
              simp [wdT, a1, a2]
            rw [h0]
            clear h0
            rintro e w5 ⟨rfl, rfl⟩
            dsimp only
            go_wp2_with fail
            go_ret
            exact ⟨rfl, hw4⟩

theorem walk (A : Option Addr) (n c : Nat) (ls : List (List Int)) (w : World) (h : RS w w.heap.size A n c ls) :
    Calls Try.prog 7 #[.slice A n c] w fun e w' => e = .returned (.bool true) ∧ Below w.heap.size w w' := by
  by_cases hn : 20 < n
  · exact early A n c w (by have := h.2.1; have := h.2.2.1; unfold maxLen at this; omega) hn
  · exact core A n c ls w h (by omega)
end Go.Proofs.Ytpdleckflcangaa.ShapeOne

