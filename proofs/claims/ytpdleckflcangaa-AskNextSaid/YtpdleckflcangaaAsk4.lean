/- Package ask: the contract of Next; besomlaw19: its first call answers true. -/
import Derived.Test.YtpdleckflcangaaAsk3
import Derived.Test.YtpdleckflcangaaArgs
namespace Go.Proofs.Ytpdleckflcangaa.Ask
open Go.RowKit Go.Maps
set_option linter.unusedSimpArgs false
set_option linter.unusedVariables false

/-- The cells of a list of hands. -/
def hc (l : List (Int × Bool)) : List Value := pairCells (l.map fun q => (.int .i64 q.1, .bool q.2))
/-- Is a hand to be scanned? -/
def waits (q : Int × Bool) : Bool := q.1 != 4 && !q.2
/-- Which one is the first that is to be scanned. -/
def nextI (l : List (Int × Bool)) : Option Nat := l.findIdx? waits
theorem hc_at {w : World} {B n c : Nat} {A : Option Addr} {l : List (Int × Bool)} (h : Reads w B 2 A n c (hc l)) {i : Nat} {q : Int × Bool} (hq : l[i]? = some q) :
    ∃ b off, A = some ⟨b, off, none⟩ ∧ b < B ∧ w.cell? ⟨b, off + i * 2, none⟩ = some (.int .i64 q.1) ∧ w.cell? ⟨b, off + i * 2 + 1, none⟩ = some (.bool q.2) := by
  obtain ⟨e0, e1⟩ := pairCells_at (l := l.map fun q => (Value.int .i64 q.1, Value.bool q.2)) (i := i) (p := (.int .i64 q.1, .bool q.2)) (by rw [List.getElem?_map, hq]; rfl)
  have hn : 0 < n := by
    have h1 := (List.getElem?_eq_some_iff.1 hq).1
    have h2 := h.2.2.1
    unfold hc at h2
    rw [pairCells_length, List.length_map] at h2
    omega
  obtain ⟨b, off, e, hb, hcell⟩ := h.2.2.2 hn
  exact ⟨b, off, e, hb, hcell _ _ e0, hcell _ _ e1⟩
theorem next_at {l : List (Int × Bool)} {k : Nat} {q : Int × Bool} (hq : l[k]? = some q) (hw : waits q = true) (hp : ∀ x ∈ l.take k, waits x = false) : nextI l = some k := by
  unfold nextI
  rw [List.findIdx?_eq_some_iff_getElem]
  obtain ⟨h, rfl⟩ := List.getElem?_eq_some_iff.1 hq
  refine ⟨h, hw, fun j hj => ?_⟩
  have := hp l[j] (List.mem_take_iff_getElem.2 ⟨j, by omega, rfl⟩)
  simp [this]
theorem next_none {l : List (Int × Bool)} (hp : ∀ x ∈ l, waits x = false) : nextI l = none := by
  unfold nextI
  rw [List.findIdx?_eq_none_iff]
  exact hp

set_option maxHeartbeats 1000000 in
theorem next_any (w : World) (B : Nat) (A : Option Addr) (n c : Nat) (l : List (Int × Bool)) (h : Reads w B 2 A n c (hc l)) (hB : B ≤ w.heap.size) (hl : l.length = n) :
    Calls Try.prog 17 #[.slice A n c] w fun e w' => e = .returned (.tuple #[.int .i64 ((nextI l).getD 0 : Nat), .bool (nextI l).isSome]) ∧ Below w.heap.size w w' := by
  have hm : n ≤ 9223372036854775807 := by have := h.1; have := h.2.1; unfold maxLen at this; omega
  have HR := Lib.hid h
  have HL := Lib.hid hl
  clear h hl
  go_enter Try.func17, Try.ntmps17
  go_wp2_with fail
  go_loopw [8] (fun i wr => ∃ k : Nat, k ≤ n ∧ i = .int .i64 k ∧ Below w.heap.size w wr ∧ ∀ x ∈ l.take k, waits x = false) (fun i _ => n - (intOf i).toNat)
  case atStart => exact ⟨0, Nat.zero_le _, rfl, Below.refl _ _, by simp⟩
  case round =>
    obtain ⟨k, hk, rfl, hw, hp⟩ := hrel
    have HP := Lib.hid hp
    have HW := Lib.hid hw
    clear hp hw
    by_cases hlt : k < n
    · have hkl : k < l.length := by have := HL.out; omega
      have hq : l[k]? = some l[k] := List.getElem?_eq_getElem hkl
      obtain ⟨b, off, rfl, hb, c0, c1⟩ := hc_at (HR.out.below (HW.out.mono hB)) hq
      have HT := Lib.hid (show l.take (k + 1) = l.take k ++ [l[k]] from List.take_succ_eq_append_getElem hkl)
      have HQ := Lib.hid hq
      obtain ⟨⟨st, bl⟩, hx⟩ : ∃ q, l[k] = q := ⟨_, rfl⟩
      rw [hx] at HT HQ c0 c1
      dsimp only at c0 c1
      clear hq hx
      have hk0 : (0 : Int) ≤ (k : Int) := by omega
      have hkn : (k : Int) < (n : Int) := by omega
      by_cases hw : waits (st, bl) = true
      · have HN := Lib.hid (next_at HQ.out hw HP.out)
        have h1 : (st != 4) = true ∧ bl = false := by simpa [waits] using hw
        obtain ⟨h1, rfl⟩ := h1
        clear hw
        go_wp2_with fail
        go_ret2
        rw [HN.out]
        exact ⟨rfl, fresh_alloc HW.out _⟩
      · have hall : ∀ x ∈ l.take (k + 1), waits x = false := by
          intro x hx
          rw [HT.out] at hx
          rcases List.mem_append.1 hx with hx | hx
          · exact HP.out x hx
          · rw [List.mem_singleton.1 hx]; simpa using hw
        have HA := Lib.hid hall
        have h1 : (st != 4) = false ∨ ((st != 4) = true ∧ bl = true) := by
          unfold waits at hw
          cases h2 : (st != 4) <;> cases bl <;> simp_all
        clear hw hall
        rcases h1 with h1 | ⟨h1, rfl⟩
        all_goals
          go_wp2_with fail
          exact ⟨⟨k + 1, by omega, by go_num, fresh_alloc HW.out _, HA.out⟩, by simp [intOf]; omega⟩
    · have hkn : k = n := by omega
      subst hkn
      have HN := Lib.hid (next_none (l := l) (by have := HP.out; rwa [List.take_of_length_le (by have := HL.out; omega)] at this))
      go_wp2_with fail
      go_ret2
      rw [HN.out]
      exact ⟨rfl, HW.out⟩

set_option maxRecDepth 100000 in
set_option maxHeartbeats 2000000 in
theorem alive (w : World) : Calls Try.prog 16 #[] w fun e w' => e = .returned (.bool true) ∧ Below w.heap.size w w' := by
  go_enter Try.func16, Try.ntmps16
  go_wp2_with fail
  refine (ask_any 0 false _ (by decide)).mono ?_
  rw [show nx 0 0 = 1 from rfl]
  rintro e w1 ⟨rfl, hb1⟩
  have B1 := Blk.new w1 #[.int .i64 1, .bool false] 32
  have HW1 := Lib.hid (fresh_alloc hb1 (.cells #[.int .i64 1, .bool false] 32))
  have HB1 := Lib.hid B1
  clear B1 hb1
  dsimp only
  go_wp2_with fail
  generalize w1.alloc (.cells #[.int .i64 1, .bool false] 32) = w2 at *
  generalize w1.heap.size = b1 at *
  refine (reach_no 1 false _).mono ?_
  rintro e w3 ⟨rfl, hb⟩
  have HB13 := Lib.hid ((HB1.out.call hb).alloc (.cells #[.int .i64 1, .bool false] 32))
  have HB2 := Lib.hid (Blk.new w3 #[.int .i64 1, .bool false] 32)
  have HW3 := Lib.hid (fresh_alloc (fresh_call HW1.out hb) (.cells #[.int .i64 1, .bool false] 32))
  clear hb
  dsimp only
  go_wp2_with fail
  generalize w3.alloc (.cells #[.int .i64 1, .bool false] 32) = w4 at *
  generalize w3.heap.size = b2 at *
  refine (reach_yes 1 false _ (by decide)).mono ?_
  rw [show nx 1 1 = 2 from rfl, show stepF 1 1 = some 2 from rfl]
  rintro e w5 ⟨rfl, hb⟩
  have HB15 := Lib.hid ((HB13.out.call hb).alloc (.cells #[.int .i64 2, .bool false] 32))
  have HB25 := Lib.hid ((HB2.out.call hb).alloc (.cells #[.int .i64 2, .bool false] 32))
  have HB4 := Lib.hid (Blk.new w5 #[.int .i64 2, .bool false] 32)
  have HW5 := Lib.hid (fresh_alloc (fresh_call HW3.out hb) (.cells #[.int .i64 2, .bool false] 32))
  clear hb HB1 HB13 HB2 HW1 HW3
  simp only [Option.isSome]
  go_wp2_with fail
  generalize w5.alloc (.cells #[.int .i64 2, .bool false] 32) = w6 at *
  generalize w5.heap.size = b4 at *
  refine (scan_any 2 false _ (by decide)).mono ?_
  rw [show nx 2 3 = 0 from rfl, show stepF 2 3 = some 0 from rfl, show ((2 : Int) == 3) = false from rfl]
  rintro e w7 ⟨rfl, hb⟩
  have B1 := (HB15.out.call hb).alloc (.cells #[.int .i64 0, .bool true] 32)
  have B2 := (HB25.out.call hb).alloc (.cells #[.int .i64 0, .bool true] 32)
  have B4 := (HB4.out.call hb).alloc (.cells #[.int .i64 0, .bool true] 32)
  have B6 := Blk.new w7 #[.int .i64 0, .bool true] 32
  obtain ⟨p1, p2, p3, p4⟩ := B1.two
  obtain ⟨q1, q2, q3, q4⟩ := B2.two
  obtain ⟨r1, r2, r3, r4⟩ := B4.two
  obtain ⟨s1, s2, s3, s4⟩ := B6.two
  have HW7 := Lib.hid (fresh_alloc (fresh_call HW5.out hb) (.cells #[.int .i64 0, .bool true] 32))
  clear hb HB15 HB25 HB4 HW5 B1 B2 B4 B6
  simp only [Option.isSome, Bool.false_or]
  go_wp2_with fail
  refine (may_any 0 true _).mono ?_
  rw [show mayF 0 = true from rfl]
  rintro e w8 ⟨rfl, hb⟩
  have HW8 := Lib.hid (fresh_call HW7.out hb)
  clear hb
  dsimp only
  go_wp2_with fail
  go_ret
  exact ⟨rfl, HW8.out⟩

/-- A hand's variable is given another value. -/
theorem hset {w : World} {b : Nat} {x y x' y' : Value} {T : TypeId} (h : Blk w b #[x, y] T) : Blk ((w.setCell ⟨b, 0, none⟩ x').setCell ⟨b, 1, none⟩ y') b #[x', y'] T := (h.set 0 x').set 1 y'
end Go.Proofs.Ytpdleckflcangaa.Ask
