/- Package shape: the contract of Words; package besomref1: of Field. -/
import Derived.Test.YtpdleckflcangaaShpA
namespace Go.Proofs.Ytpdleckflcangaa.Shp
open Go.RowKit Book
set_option linter.unusedSimpArgs false
set_option linter.unusedVariables false

theorem rfield_any (k s : Int) (w : World) : Calls Try.prog 30 #[.int .i64 k, .int .i64 s] w fun e w' => e = .returned (.bool (decide (0 < kof s false k))) ∧ w = w' := by
  have hd : decide (0 < kof s false k) = (decide (0 ≤ s) && decide (s ≤ 16) && (decide (k = 1) || decide (16 ≤ k) && decide (k < 16 + s))) := by
    unfold kof kd
    by_cases h : 0 ≤ s ∧ s ≤ 16
    · rw [if_pos h]
      by_cases h2 : k = 1 ∨ (16 ≤ k ∧ k < 16 + (s.toNat : Int)) ∨ (false = true ∧ 64 ≤ k ∧ k < 64 + (s.toNat : Int))
      · rw [if_pos h2]
        simp at h2 ⊢
        omega
      · rw [if_neg h2]
        simp at h2 ⊢
        omega
    · rw [if_neg h]
      simp
      omega
  rw [hd]
  clear hd
  by_cases h1 : s < 0
  · rw [show decide (0 ≤ s) = false by simp; omega]
    go_enter Try.func30, Try.ntmps30
    go_wp2_with fail
    go_ret
    exact ⟨rfl, rfl⟩
  rw [show decide (0 ≤ s) = true by simp; omega]
  by_cases h2 : 16 < s
  · rw [show decide (s ≤ 16) = false by simp; omega]
    go_enter Try.func30, Try.ntmps30
    go_wp2_with fail
    go_ret
    exact ⟨rfl, rfl⟩
  rw [show decide (s ≤ 16) = true by simp; omega]
  by_cases h3 : k = 1
  · subst h3
    go_enter Try.func30, Try.ntmps30
    go_wp2_with fail
    go_ret
    exact ⟨rfl, rfl⟩
  have h3b : (k == 1) = false := by simpa using h3
  rw [show decide (k = 1) = false by simpa using h3]
  clear h3
  by_cases h4 : k < 16
  · rw [show decide (16 ≤ k) = false by simp; omega]
    go_enter Try.func30, Try.ntmps30
    go_wp2_with fail
    go_ret
    exact ⟨rfl, rfl⟩
  rw [show decide (16 ≤ k) = true by simp; omega]
  by_cases h5 : k < 16 + s
  · rw [show decide (k < 16 + s) = true by simp; omega]
    go_enter Try.func30, Try.ntmps30
    go_wp2_with fail
    go_ret
    exact ⟨rfl, rfl⟩
  · rw [show decide (k < 16 + s) = false by simp; omega]
    go_enter Try.func30, Try.ntmps30
    go_wp2_with fail
    go_ret
    exact ⟨rfl, rfl⟩

/-- How many words a shape has, if there is such a one. -/
def wd1 (ls : List (List Int)) (k : Int) : Nat := if 0 ≤ k ∧ k < ls.length then ((ls[k.toNat]?).map List.length).getD 0 else 0
def wdT (ls : List (List Int)) (ks : List Int) : Nat → Nat
  | 0 => 0
  | j + 1 => wdT ls ks j + ((ks[j]?).map (wd1 ls)).getD 0
theorem wd1_le {ls : List (List Int)} (h : ∀ l ∈ ls, l.length ≤ 40) (k : Int) : wd1 ls k ≤ 40 := by
  unfold wd1
  split
  · cases hl : ls[k.toNat]? with
    | none => simp
    | some l => simpa [hl] using h l (List.mem_iff_getElem?.2 ⟨_, hl⟩)
  · omega
theorem wdT_le {ls : List (List Int)} {ks : List Int} (h : ∀ z ∈ ks, wd1 ls z ≤ 40) (j : Nat) : wdT ls ks j ≤ 40 * j := by
  induction j with
  | zero => simp [wdT]
  | succ j ih =>
    unfold wdT
    cases hk : ks[j]? with
    | none => simp; omega
    | some k => have := h k (List.mem_iff_getElem?.2 ⟨_, hk⟩); simp; omega

set_option maxHeartbeats 1000000 in
theorem words_any (w : World) (B B2 : Nat) (A A2 : Option Addr) (n c n2 c2 : Nat) (ls : List (List Int)) (ks : List Int) (h : RS w B A n c ls) (h2 : RI w B2 A2 n2 c2 ks) (hs : ∀ z ∈ ks, wd1 ls z ≤ 40) (hn2 : n2 ≤ 100) :
    Calls Try.prog 31 #[.slice A n c, .slice A2 n2 c2] w fun e w' => e = .returned (.int .i64 (wdT ls ks n2)) ∧ w = w' := by
  have hm : n ≤ 9223372036854775807 := by have := h.2.1; have := h.2.2.1; unfold maxLen at this; omega
  have HR := Lib.hid h
  have HK := Lib.hid h2
  have HS := Lib.hid hs
  have HN := Lib.hid h.1
  clear h h2 hs
  go_enter Try.func31, Try.ntmps31
  go_wp2_with fail
  go_loop [5, 10] (fun o i => ∃ j : Nat, j ≤ n2 ∧ i = .int .i64 j ∧ o = .int .i64 (wdT ls ks j)) (fun _ i => n2 - (intOf i).toNat)
  case atStart => exact ⟨0, Nat.zero_le _, rfl, rfl⟩
  case round =>
    obtain ⟨j, hj, rfl, rfl⟩ := hrel
    have HB := wdT_le HS.out j
    by_cases hlt : j < n2
    · have hjl : j < ks.length := by have := HK.out.1; omega
      have hjk : ks[j]? = some ks[j] := List.getElem?_eq_getElem hjl
      obtain ⟨b2, o2, rfl, hb2, hc2⟩ := HK.out.at_ hjk
      have HE := Lib.hid (show wdT ls ks (j + 1) = wdT ls ks j + wd1 ls ks[j] by rw [wdT, hjk]; rfl)
      clear hjk
      have h40 := HS.out ks[j] (List.getElem_mem hjl)
      generalize ks[j] = x at *
      generalize hT : wdT ls ks j = T at *
      have HT := Lib.hid hT
      clear hT
      by_cases hx : 0 ≤ x ∧ x < n
      · obtain ⟨hx0, hxn⟩ := hx
        have hxl : x.toNat < ls.length := by have := HN.out; omega
        have hxk : ls[x.toNat]? = some ls[x.toNat] := List.getElem?_eq_getElem hxl
        obtain ⟨b, off, A', c', rfl, hbb, hcell, hRI, hwf⟩ := HR.out.2.2.2 _ _ hxk
        have HW1 := Lib.hid (show wd1 ls x = ls[x.toNat].length by unfold wd1; rw [if_pos ⟨hx0, by have := HN.out; omega⟩, hxk]; rfl)
        rw [HW1.out] at h40
        generalize ls[x.toNat] = l at *
        clear hxk hRI hwf
        obtain ⟨y, rfl⟩ := Int.eq_ofNat_of_zero_le hx0
        simp only [Int.toNat_natCast] at hcell HW1
        go_wp2_with fail
        refine ⟨⟨j + 1, by omega, by go_num, ?_⟩, by simp [intOf]; omega⟩
        rw [HE.out, HW1.out]
        go_num
      · have hx2 : x < 0 ∨ n ≤ x := by omega
        have HW1 := Lib.hid (show wd1 ls x = 0 by unfold wd1; rw [if_neg (by have := HN.out; omega)])
        clear hx h40
        rcases hx2 with hx | hx
        all_goals
          go_wp2_with fail
          refine ⟨⟨j + 1, by omega, by go_num, ?_⟩, by simp [intOf]; omega⟩
          rw [HE.out, HW1.out, Nat.add_zero]
    · have hjn : j = n2 := by omega
      subst hjn
      generalize hT : wdT ls ks j = T at *
      have HT := Lib.hid hT
      clear hT
      go_wp2_with fail
      go_ret
      exact ⟨by rw [HT.out]; rfl, rfl⟩
end Go.Proofs.Ytpdleckflcangaa.Shp
