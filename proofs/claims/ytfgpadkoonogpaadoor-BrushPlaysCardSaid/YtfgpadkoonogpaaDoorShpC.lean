/- Package shape: the contract of Check, over shapes that read as lists of numbers. -/
import Derived.Test.YtfgpadkoonogpaaDoorShpK
import Derived.Test.YtfgpadkoonogpaaDoorBookS
namespace Go.Proofs.YtfgpadkoonogpaaDoor.Shp
open Go.RowKit Book
set_option linter.unusedSimpArgs false
set_option linter.unusedVariables false

/-- A slice of shapes reads as lists of numbers; all of it lies below block B. -/
def RS (w : World) (B : Nat) (A : Option Addr) (n c : Nat) (ls : List (List Int)) : Prop :=
  ls.length = n ∧ n ≤ c ∧ c ≤ maxLen ∧ ∀ i l, ls[i]? = some l → ∃ b off A' c', A = some ⟨b, off, none⟩ ∧ b < B ∧ w.cell? ⟨b, off + i, none⟩ = some (.slice A' l.length c') ∧ RI w B A' l.length c' l ∧ ∀ z ∈ l, (Lit.int .i64 z).wf = true
theorem RS.keep {w w' : World} {B n c : Nat} {A : Option Addr} {ls : List (List Int)} (h : RS w B A n c ls) (hb : Below B w w') : RS w' B A n c ls := by
  refine ⟨h.1, h.2.1, h.2.2.1, fun i l hl => ?_⟩
  obtain ⟨b, off, A', c', h1, h2, h3, h4, h5⟩ := h.2.2.2 i l hl
  exact ⟨b, off, A', c', h1, h2, (hb.cell (p := ⟨b, off + i, none⟩) h2).trans h3, ⟨h4.1, h4.2.below hb⟩, h5⟩
theorem RS.more {w : World} {B B' n c : Nat} {A : Option Addr} {ls : List (List Int)} (h : RS w B A n c ls) (hB : B ≤ B') : RS w B' A n c ls := by
  refine ⟨h.1, h.2.1, h.2.2.1, fun i l hl => ?_⟩
  obtain ⟨b, off, A', c', h1, h2, h3, h4, h5⟩ := h.2.2.2 i l hl
  exact ⟨b, off, A', c', h1, by omega, h3, ⟨h4.1, h4.2.more hB⟩, h5⟩

/-- May the fields' kinds be? -/
def chkF (n : Int) (l : List Int) : Bool := l.all fun k => decide (0 < kof n false k)
def chk1 (n : Int) (l : List Int) : Int := if l.length < 1 ∨ 16 < l.length then 1 else if chkF n l then 0 else 3
def chkL (n : Int) : List (List Int) → Int
  | [] => 0
  | l :: r => if chk1 n l = 0 then chkL n r else chk1 n l
/-- Why shapes may not be. -/
def chk (ls : List (List Int)) : Int := if 16 < ls.length then 1 else chkL ls.length ls
theorem chkL_drop {n : Int} {ls : List (List Int)} {k : Nat} {l : List Int} (hl : ls[k]? = some l) : chkL n (ls.drop k) = if chk1 n l = 0 then chkL n (ls.drop (k + 1)) else chk1 n l := by
  obtain ⟨hk, rfl⟩ := List.getElem?_eq_some_iff.1 hl
  rw [List.drop_eq_getElem_cons hk]
  rfl
theorem kof_zero (n : Int) (p : Bool) (k : Int) : kof n p k = 0 ∨ kof n p k = 1 := by
  unfold kof kd
  split
  · split <;> simp
  · simp

def RelO (ls : List (List Int)) (N : Nat) (mb : Nat) (w : World) (i : Value) (wr : World) : Prop := ∃ k : Nat, k ≤ ls.length ∧ i = .int .i64 k ∧ chkL N ls = chkL N (ls.drop k) ∧ IMap wr mb 40 (kof N false) ∧ Below w.heap.size w wr

theorem check_many (w : World) (A : Option Addr) (n c : Nat) (hm : n ≤ 9223372036854775807) (h : 16 < n) :
    Calls Tryd.prog 73 #[.slice A n c] w fun e w' => e = .returned (.int .i64 1) ∧ Below w.heap.size w w' := by
  go_enter Tryd.func73, Tryd.ntmps73
  go_wp2_with fail
  go_ret
  exact ⟨rfl, Below.refl _ _⟩

set_option maxRecDepth 1000000 in
set_option maxHeartbeats 1000000 in
theorem check_few (w : World) (A : Option Addr) (n c : Nat) (ls : List (List Int)) (h : RS w w.heap.size A n c ls) (hn : n ≤ 16) :
    Calls Tryd.prog 73 #[.slice A n c] w fun e w' => e = .returned (.int .i64 (chkL n ls)) ∧ Below w.heap.size w w' := by
  have HR := Lib.hid h
  have HN := Lib.hid h.1
  clear h
  go_enter Tryd.func73, Tryd.ntmps73
  go_wp2_with fail
  refine (kinds_any _ _ _).mono ?_
  rintro e w1 ⟨rfl, hi, hb⟩
  have H0 := Lib.hid (show RelO ls n w.heap.size w (.int .i64 0) w1 from ⟨0, Nat.zero_le _, rfl, rfl, hi, hb⟩)
  clear hi hb
  dsimp only
  go_wp2_with fail
  go_loopw [16] (fun i wr => RelO ls n w.heap.size w i wr) (fun i _ => n - (intOf i).toNat)
  case atStart => exact H0.out
  case round =>
    clear H0
    obtain ⟨k, hk, rfl, hc, hi, hw⟩ := hrel
    have HC := Lib.hid hc
    have HI := Lib.hid hi
    clear hc hi
    by_cases hlt : k < n
    · have hkl : k < ls.length := by have := HN.out; omega
      have hlk : ls[k]? = some ls[k] := List.getElem?_eq_getElem hkl
      have hd := chkL_drop (n := n) hlk
      obtain ⟨b, off, A', c', rfl, hbb, hcell, hRI, hwf⟩ := (HR.out.keep hw).2.2.2 k _ hlk
      generalize ls[k] = l at *
      have hbr : b < wr.heap.size := by have := hw.size; omega
      have HD := Lib.hid hd
      have HL := Lib.hid hRI
      have HWF := Lib.hid hwf
      have hlm : l.length ≤ 9223372036854775807 := by have := hRI.2.1; have := hRI.2.2.1; unfold maxLen at this; omega
      clear hd hRI hwf hlk
      by_cases h1 : l.length < 1
      · go_wp2_with fail
        go_ret
        refine ⟨ret_int ?_, fresh_alloc hw _⟩
        rw [HC.out, HD.out, if_neg (by unfold chk1; rw [if_pos (.inl h1)]; decide)]
        unfold chk1; rw [if_pos (.inl h1)]
      by_cases h2 : 16 < l.length
      · go_wp2_with fail
        go_ret
        refine ⟨ret_int ?_, fresh_alloc hw _⟩
        rw [HC.out, HD.out, if_neg (by unfold chk1; rw [if_pos (.inr h2)]; decide)]
        unfold chk1; rw [if_pos (.inr h2)]
      · have B5 := Blk.new wr #[.slice A' l.length c'] 64
        have HI2 := Lib.hid (HI.out.block (w' := wr.alloc (.cells #[.slice A' l.length c'] 64)) (Below.heap_alloc wr _ _ HI.out.lt))
        have hw2 := fresh_alloc hw (.cells #[.slice A' l.length c'] 64)
        have HL2 := Lib.hid (show RI (wr.alloc (.cells #[.slice A' l.length c'] 64)) w.heap.size A' l.length c' l from ⟨HL.out.1, HL.out.2.below ((Below.refl w.heap.size wr).alloc hw.size _)⟩)
        go_wp2_with fail
        generalize wr.alloc (.cells #[.slice A' l.length c'] 64) = w2 at *
        go_loop [33] (fun j => ∃ q : Nat, q ≤ l.length ∧ j = .int .i64 q ∧ ∀ z ∈ l.take q, 0 < kof n false z) (fun j => l.length - (intOf j).toNat)
        case atStart => exact ⟨0, Nat.zero_le _, rfl, by simp⟩
        case round =>
          obtain ⟨q, hq, rfl, hall⟩ := hrel
          have HA := Lib.hid hall
          clear hall
          by_cases hql : q < l.length
          · have hlq : l[q]? = some l[q] := List.getElem?_eq_getElem hql
            obtain ⟨b2, o2, rfl, hb2, hc2⟩ := HL2.out.at_ hlq
            have hwz := HWF.out l[q] (List.getElem_mem hql)
            have hlk := HI2.out.look 149 Tryd.underlying149 l[q] hwz
            have HQ := Lib.hid hlq
            clear hlq hwz
            rcases kof_zero n false l[q] with hz | hz
            · rw [hz] at hlk
              have HZ := Lib.hid hz
              clear hz
              generalize hzz : l[q] = z at *
              clear hzz
              go_wp2_with fail
              go_ret
              refine ⟨ret_int ?_, hw2⟩
              have hno : chkF n l = false := by
                unfold chkF
                rw [List.all_eq_false]
                exact ⟨z, List.mem_iff_getElem?.2 ⟨q, HQ.out⟩, by rw [HZ.out]; decide⟩
              have h3 : chk1 n l = 3 := by unfold chk1; rw [if_neg (by omega), hno]; rfl
              rw [HC.out, HD.out, if_neg (by rw [h3]; decide), h3]
            · rw [hz] at hlk
              have HZ := Lib.hid hz
              clear hz
              generalize hzz : l[q] = z at *
              clear hzz
              go_wp2_with fail
              refine ⟨⟨q + 1, by omega, by go_num, fun y hy => ?_⟩, by simp [intOf]; omega⟩
              rw [List.take_succ_eq_append_getElem hql] at hy
              rcases List.mem_append.1 hy with hy | hy
              · exact HA.out y hy
              · have e := (List.getElem?_eq_getElem hql).symm.trans HQ.out
                injection e with e
                simp at hy
                rw [hy, e, HZ.out]
                decide
          · have hql' : q = l.length := by omega
            subst hql'
            go_wp2_with fail
            have hyes : chkF n l = true := by
              unfold chkF
              rw [List.all_eq_true]
              intro y hy
              have := HA.out y (by rw [List.take_length]; exact hy)
              simpa using this
            have h0 : chk1 n l = 0 := by unfold chk1; rw [if_neg (by omega), hyes]; rfl
            refine ⟨⟨k + 1, by omega, by go_num, ?_, HI2.out, hw2⟩, by simp [intOf]; omega⟩
            rw [HC.out, HD.out, if_pos h0]
    · have hkk : k = ls.length := by have := HN.out; omega
      subst hkk
      go_wp2_with fail
      go_ret
      refine ⟨ret_int ?_, hw⟩
      rw [HC.out, List.drop_length]
      rfl

theorem check_any (w : World) (A : Option Addr) (n c : Nat) (ls : List (List Int)) (h : RS w w.heap.size A n c ls) :
    Calls Tryd.prog 73 #[.slice A n c] w fun e w' => e = .returned (.int .i64 (chk ls)) ∧ Below w.heap.size w w' := by
  unfold chk
  rw [h.1]
  by_cases hn : 16 < n
  · rw [if_pos hn]
    exact check_many w A n c (by have := h.2.1; have := h.2.2.1; unfold maxLen at this; omega) hn
  · rw [if_neg hn]
    exact check_few w A n c ls h (by omega)
end Go.Proofs.YtfgpadkoonogpaaDoor.Shp
