/- Package stack: what a stack is in memory, and the contracts of its methods. -/
import Derived.Test.YtpdleckflcangaaProg
import Derived.Test.YtpdleckflcangaaApp
import Derived.Deep.OwnRows
namespace Go.Proofs.Ytpdleckflcangaa.Stk
open Go.RowKit
set_option linter.unusedSimpArgs false
set_option linter.unusedVariables false

theorem infoI : (Try.prog.info? 3).map (fun i => (i.zero, i.size, i.bytes)) = some (some (.int .i64 0), 1, 8) := by kernel_rfl

/-- The cells of a list of numbers. -/
def cells (ws : List Int) : Array Value := (ws.map (Value.int .i64)).toArray
theorem cells_size (ws : List Int) : (cells ws).size = ws.length := by simp [cells]
theorem cells_get (ws : List Int) (k : Nat) (x : Int) (h : ws[k]? = some x) : (cells ws)[k]? = some (.int .i64 x) := by
  simp [cells, h]
theorem cells_set (ws : List Int) (k : Nat) (x : Int) : (cells ws).setIfInBounds k (.int .i64 x) = cells (ws.set k x) := by
  apply Array.ext_getElem?
  intro j
  simp only [cells, Array.getElem?_setIfInBounds, List.getElem?_toArray, List.getElem?_map, List.getElem?_set, List.size_toArray, List.length_map]
  by_cases h : k = j
  · subst h
    by_cases h2 : k < ws.length <;> simp [h2]
  · simp [h]
theorem made_cells (n : Nat) : madeCells #[.int .i64 0] n = cells (List.replicate n 0) := by
  apply Array.ext_getElem?
  intro j
  by_cases h : j < n <;> simp [madeCells, cells, h, Nat.mod_one]

/-- Block b is a stack, its words are block g: they are ws. -/
def StackAt (w : World) (b g : Nat) (base : Int) (ws : List Int) : Prop :=
  Blk w b #[.int .i64 base, .slice (some ⟨g, 0, none⟩) ws.length ws.length] 74 ∧ Blk w g (cells ws) 3 ∧ 0 < ws.length ∧ ws.length ≤ 4096
theorem StackAt.ne {w : World} {b g : Nat} {base : Int} {ws : List Int} (h : StackAt w b g base ws) : b ≠ g := by
  rintro rfl
  have h1 : w.heap[b]? = some (.cells _ 74 (0, 0)) := h.1
  have h2 : w.heap[b]? = some (.cells _ 3 (0, 0)) := h.2.1
  rw [h1] at h2
  injection h2 with h2
  injection h2 with _ h2
  exact absurd h2 (by decide)
theorem StackAt.keep {w w' : World} {b g : Nat} {base : Int} {ws : List Int} (h : StackAt w b g base ws) (h1 : w'.heap[b]? = w.heap[b]?) (h2 : w'.heap[g]? = w.heap[g]?) : StackAt w' b g base ws := ⟨h1.trans h.1, h2.trans h.2.1, h.2.2⟩
theorem StackAt.below {w w' : World} {b g : Nat} {base : Int} {ws : List Int} (h : StackAt w b g base ws) (hb : Below w.heap.size w w') : StackAt w' b g base ws := h.keep (hb.block b h.1.lt) (hb.block g h.2.1.lt)
theorem StackAt.drewN {w : World} {b g : Nat} {base : Int} {ws : List Int} (h : StackAt w b g base ws) (n : Nat) : StackAt (w.drewN n) b g base ws := h

theorem words_any (b g : Nat) (base : Int) (ws : List Int) (w : World) (h : StackAt w b g base ws) :
    Calls Try.prog 35 #[.pointer (some ⟨b, 0, none⟩)] w fun e w' => e = .returned (.int .i64 ws.length) ∧ w = w' := by
  obtain ⟨c0, c1, f0, f1⟩ := h.1.two
  have hl := h.2.2.2
  clear h
  go_enter Try.func35, Try.ntmps35
  go_wp2
  go_ret
  exact ⟨rfl, rfl⟩
theorem base_any (b g : Nat) (base : Int) (ws : List Int) (w : World) (h : StackAt w b g base ws) :
    Calls Try.prog 39 #[.pointer (some ⟨b, 0, none⟩)] w fun e w' => e = .returned (.int .i64 base) ∧ w = w' := by
  obtain ⟨c0, c1, f0, f1⟩ := h.1.two
  clear h
  go_enter Try.func39, Try.ntmps39
  go_wp2
  go_ret
  exact ⟨rfl, rfl⟩
theorem there_yes (b g : Nat) (base : Int) (ws : List Int) (k : Nat) (w : World) (h : StackAt w b g base ws) (hk : k < ws.length) :
    Calls Try.prog 51 #[.pointer (some ⟨b, 0, none⟩), .int .i64 k] w fun e w' => e = .returned (.bool true) ∧ w = w' := by
  have H := Lib.hid h
  have hd : decide ((k : Int) < (ws.length : Int)) = true := by simp; omega
  clear h
  go_enter Try.func51, Try.ntmps51
  go_wp2_with (go_at_call 35; refine (words_any _ _ _ _ _ H.out).mono ?_; rintro e w1 ⟨rfl, rfl⟩; dsimp only)
  go_ret
  exact ⟨rfl, rfl⟩
theorem there_no (b g : Nat) (base : Int) (ws : List Int) (k : Int) (w : World) (h : StackAt w b g base ws) (hk : k < 0 ∨ (ws.length : Int) ≤ k) :
    Calls Try.prog 51 #[.pointer (some ⟨b, 0, none⟩), .int .i64 k] w fun e w' => e = .returned (.bool false) ∧ w = w' := by
  have H := Lib.hid h
  clear h
  by_cases h0 : k < 0
  · clear hk
    go_enter Try.func51, Try.ntmps51
    go_wp2_with fail
    go_ret
    exact ⟨rfl, rfl⟩
  · have h1 : (ws.length : Int) ≤ k := by omega
    have hd : decide (k < (ws.length : Int)) = false := by simp; omega
    clear hk
    go_enter Try.func51, Try.ntmps51
    go_wp2_with (go_at_call 35; refine (words_any _ _ _ _ _ H.out).mono ?_; rintro e w1 ⟨rfl, rfl⟩; dsimp only)
    go_ret
    exact ⟨rfl, rfl⟩
theorem load_yes (b g : Nat) (base : Int) (ws : List Int) (k : Nat) (x : Int) (w : World) (h : StackAt w b g base ws) (hx : ws[k]? = some x) :
    Calls Try.prog 36 #[.pointer (some ⟨b, 0, none⟩), .int .i64 k] w fun e w' => e = .returned (.tuple #[.int .i64 x, .bool true]) ∧ w = w' := by
  have hk : k < ws.length := (List.getElem?_eq_some_iff.1 hx).1
  obtain ⟨c0, c1, f0, f1⟩ := h.1.two
  have cx := (h.2.1.cell k).trans (cells_get ws k x hx)
  have hl := h.2.2.2
  have H := Lib.hid h
  clear h hx
  go_enter Try.func36, Try.ntmps36
  go_wp2_with fail
  refine (there_yes _ _ _ _ _ _ H.out hk).mono ?_
  rintro e w1 ⟨rfl, rfl⟩
  dsimp only
  go_wp2_with fail
  go_ret2
  exact ⟨rfl, rfl⟩
theorem load_no (b g : Nat) (base : Int) (ws : List Int) (k : Int) (w : World) (h : StackAt w b g base ws) (hk : k < 0 ∨ (ws.length : Int) ≤ k) :
    Calls Try.prog 36 #[.pointer (some ⟨b, 0, none⟩), .int .i64 k] w fun e w' => e = .returned (.tuple #[.int .i64 0, .bool false]) ∧ w = w' := by
  have H := Lib.hid h
  have HK := Lib.hid hk
  clear h hk
  go_enter Try.func36, Try.ntmps36
  go_wp2_with fail
  refine (there_no _ _ _ _ _ _ H.out HK.out).mono ?_
  rintro e w1 ⟨rfl, rfl⟩
  dsimp only
  go_wp2_with fail
  go_ret2
  exact ⟨rfl, rfl⟩
theorem addr_yes (b g : Nat) (base : Int) (ws : List Int) (k : Nat) (w : World) (h : StackAt w b g base ws) (hk : k < ws.length) (hb : 0 ≤ base ∧ base ≤ 4000000000) :
    Calls Try.prog 15 #[.pointer (some ⟨b, 0, none⟩), .int .i64 k] w fun e w' => e = .returned (.int .i64 (base + k)) ∧ w = w' := by
  obtain ⟨c0, c1, f0, f1⟩ := h.1.two
  have hl := h.2.2.2
  obtain ⟨hb1, hb2⟩ := hb
  have H := Lib.hid h
  clear h
  go_enter Try.func15, Try.ntmps15
  go_wp2_with fail
  refine (there_yes _ _ _ _ _ _ H.out hk).mono ?_
  rintro e w1 ⟨rfl, rfl⟩
  dsimp only
  go_wp2_with fail
  go_ret
  exact ⟨rfl, rfl⟩
theorem addr_no (b g : Nat) (base : Int) (ws : List Int) (k : Int) (w : World) (h : StackAt w b g base ws) (hk : k < 0 ∨ (ws.length : Int) ≤ k) :
    Calls Try.prog 15 #[.pointer (some ⟨b, 0, none⟩), .int .i64 k] w fun e w' => e = .returned (.int .i64 0) ∧ w = w' := by
  have H := Lib.hid h
  have HK := Lib.hid hk
  clear h hk
  go_enter Try.func15, Try.ntmps15
  go_wp2_with fail
  refine (there_no _ _ _ _ _ _ H.out HK.out).mono ?_
  rintro e w1 ⟨rfl, rfl⟩
  dsimp only
  go_wp2_with fail
  go_ret
  exact ⟨rfl, rfl⟩
theorem store_yes (b g : Nat) (base : Int) (ws : List Int) (k : Nat) (x : Int) (w : World) (h : StackAt w b g base ws) (hk : k < ws.length) :
    Calls Try.prog 33 #[.pointer (some ⟨b, 0, none⟩), .int .i64 k, .int .i64 x] w fun e w' => e = .returned (.bool true) ∧ StackAt w' b g base (ws.set k x) ∧ w.grownBy w' (some g) := by
  obtain ⟨c0, c1, f0, f1⟩ := h.1.two
  have cx := (h.2.1.cell k).trans (cells_get ws k ws[k] (List.getElem?_eq_getElem hk))
  have fx := h.2.1.free k
  have hl := h.2.2.2
  have H := Lib.hid h
  clear h
  go_enter Try.func33, Try.ntmps33
  go_wp2_with fail
  refine (there_yes _ _ _ _ _ _ H.out hk).mono ?_
  rintro e w1 ⟨rfl, rfl⟩
  dsimp only
  go_wp2_with fail
  go_ret
  refine ⟨rfl, ⟨?_, ?_, by simp; exact H.out.2.2.1, by simp; exact hl⟩, grown_set w g k _⟩
  · rw [List.length_set]
    exact H.out.1.other (a := ⟨g, k, none⟩) H.out.ne _
  · rw [← cells_set]
    exact H.out.2.1.set k _
theorem store_no (b g : Nat) (base : Int) (ws : List Int) (k : Int) (x : Int) (w : World) (h : StackAt w b g base ws) (hk : k < 0 ∨ (ws.length : Int) ≤ k) :
    Calls Try.prog 33 #[.pointer (some ⟨b, 0, none⟩), .int .i64 k, .int .i64 x] w fun e w' => e = .returned (.bool false) ∧ w = w' := by
  have H := Lib.hid h
  have HK := Lib.hid hk
  clear h hk
  go_enter Try.func33, Try.ntmps33
  go_wp2_with fail
  refine (there_no _ _ _ _ _ _ H.out HK.out).mono ?_
  rintro e w1 ⟨rfl, rfl⟩
  dsimp only
  go_wp2_with fail
  go_ret
  exact ⟨rfl, rfl⟩
theorem off_in (b g : Nat) (base : Int) (ws : List Int) (k : Nat) (w : World) (h : StackAt w b g base ws) (hk : k < ws.length) (hb : 0 ≤ base ∧ base ≤ 4000000000) (a : Int) (ha : a = base + k) :
    Calls Try.prog 14 #[.pointer (some ⟨b, 0, none⟩), .int .i64 a] w fun e w' => e = .returned (.tuple #[.int .i64 k, .bool true]) ∧ ∃ n, w' = w.drewN n := by
  obtain ⟨c0, c1, f0, f1⟩ := h.1.two
  have hl := h.2.2.2
  obtain ⟨hb1, hb2⟩ := hb
  have h1 : decide (a < base) = false := by simp; omega
  have h2 : decide (base + (ws.length : Int) ≤ a) = false := by simp; omega
  have h3 : base ≤ a := by omega
  have h4 : a < base + (ws.length : Int) := by omega
  have HA := Lib.hid ha
  clear h ha
  go_enter Try.func14, Try.ntmps14
  go_wp2_with fail
  go_quiet (fail)
  go_wp2_with fail
  go_ret2
  refine ⟨?_, _, rfl⟩
  rw [show (k : Int) = a - base by have := HA.out; omega]
  rfl
theorem off_out (b g : Nat) (base : Int) (ws : List Int) (a : Int) (w : World) (h : StackAt w b g base ws) (hb : 0 ≤ base ∧ base ≤ 4000000000) (ha : a < base ∨ base + (ws.length : Int) ≤ a) :
    Calls Try.prog 14 #[.pointer (some ⟨b, 0, none⟩), .int .i64 a] w fun e w' => e = .returned (.tuple #[.int .i64 0, .bool false]) ∧ ∃ n, w' = w.drewN n := by
  obtain ⟨c0, c1, f0, f1⟩ := h.1.two
  have hl := h.2.2.2
  obtain ⟨hb1, hb2⟩ := hb
  clear h
  by_cases h1 : a < base
  · have h2 : decide (a < base) = true := by simpa using h1
    clear ha
    go_enter Try.func14, Try.ntmps14
    go_wp2_with fail
    go_quiet (fail)
    go_wp2_with fail
    go_ret2
    exact ⟨rfl, _, rfl⟩
  · have h2 : decide (a < base) = false := by simpa using h1
    have h3 : base + (ws.length : Int) ≤ a := by omega
    have h4 : decide (base + (ws.length : Int) ≤ a) = true := by simpa using h3
    clear ha
    go_enter Try.func14, Try.ntmps14
    go_wp2_with fail
    go_quiet (fail)
    go_wp2_with fail
    go_ret2
    exact ⟨rfl, _, rfl⟩
theorem off_nil (a : Int) (w : World) :
    Calls Try.prog 14 #[.pointer none, .int .i64 a] w fun e w' => e = .returned (.tuple #[.int .i64 0, .bool false]) ∧ ∃ n, w' = w.drewN n := by
  go_enter Try.func14, Try.ntmps14
  go_wp2_with fail
  go_quiet (fail)
  go_wp2_with fail
  go_ret2
  exact ⟨rfl, _, rfl⟩

/-- Where a word leads to behind a move from a stack to another one. -/
theorem moved_out (b g b2 g2 : Nat) (base base2 : Int) (ws ws2 : List Int) (a : Int) (w : World) (h : StackAt w b g base ws) (h2 : StackAt w b2 g2 base2 ws2) (hb2 : 0 ≤ base2 ∧ base2 ≤ 4000000000) (ha : a < base2 ∨ base2 + (ws2.length : Int) ≤ a) :
    Calls Try.prog 37 #[.pointer (some ⟨b, 0, none⟩), .pointer (some ⟨b2, 0, none⟩), .int .i64 a] w fun e w' => e = .returned (.int .i64 a) ∧ ∃ n, w' = w.drewN n := by
  have H := Lib.hid h
  have H2 := Lib.hid h2
  have HA := Lib.hid ha
  clear h h2 ha
  go_enter Try.func37, Try.ntmps37
  go_wp2_with fail
  refine (off_out _ _ _ _ _ _ H2.out hb2 HA.out).mono ?_
  rintro e w1 ⟨rfl, n, rfl⟩
  dsimp only
  go_wp2_with fail
  go_ret
  exact ⟨rfl, n, rfl⟩
theorem moved_in (b g b2 g2 : Nat) (base base2 : Int) (ws ws2 : List Int) (k : Nat) (a : Int) (w : World) (h : StackAt w b g base ws) (h2 : StackAt w b2 g2 base2 ws2) (hb : 0 ≤ base ∧ base ≤ 4000000000) (hb2 : 0 ≤ base2 ∧ base2 ≤ 4000000000)
    (hk : k < ws2.length) (ha : a = base2 + k) :
    Calls Try.prog 37 #[.pointer (some ⟨b, 0, none⟩), .pointer (some ⟨b2, 0, none⟩), .int .i64 a] w fun e w' => e = .returned (.int .i64 (if k < ws.length then base + k else 0)) ∧ ∃ n, w' = w.drewN n := by
  have H := Lib.hid h
  have H2 := Lib.hid h2
  have HA := Lib.hid ha
  clear h h2 ha
  by_cases hkk : k < ws.length
  · rw [if_pos hkk]
    go_enter Try.func37, Try.ntmps37
    go_wp2_with fail
    refine (off_in _ _ _ _ k _ H2.out hk hb2 _ HA.out).mono ?_
    rintro e w1 ⟨rfl, n, rfl⟩
    dsimp only
    go_wp2_with fail
    refine (addr_yes _ _ _ _ _ _ (H.out.drewN n) hkk hb).mono ?_
    rintro e w1 ⟨rfl, rfl⟩
    dsimp only
    go_wp2_with fail
    go_ret
    exact ⟨rfl, n, rfl⟩
  · rw [if_neg hkk]
    go_enter Try.func37, Try.ntmps37
    go_wp2_with fail
    refine (off_in _ _ _ _ k _ H2.out hk hb2 _ HA.out).mono ?_
    rintro e w1 ⟨rfl, n, rfl⟩
    dsimp only
    go_wp2_with fail
    refine (addr_no _ _ _ _ _ _ (H.out.drewN n) (.inr (by omega))).mono ?_
    rintro e w1 ⟨rfl, rfl⟩
    dsimp only
    go_wp2_with fail
    go_ret
    exact ⟨rfl, n, rfl⟩

theorem new_lo (serial words : Int) (n : Nat) (rep : List Int) (w : World) (hw : words < 1) (hrep : rep.length = n) (h0 : 0 < n) (h4 : n ≤ 4096)
    (hmk : ∀ W : World, (Instr.makeSlice 46 (.int .i64 1) (.int .i64 1)).run Try.prog W = .ok (.slice (some ⟨W.heap.size, 0, none⟩) n n) (W.alloc (.cells (cells rep) 3))) :
    Calls Try.prog 13 #[.int .i64 serial, .int .i64 words] w fun e w' => e = .returned (.pointer (some ⟨w.heap.size + 1, 0, none⟩)) ∧
      StackAt w' (w.heap.size + 1) w.heap.size (1073741824 + min (max serial 0) 100000 * 8192) rep ∧ Below w.heap.size w w' := by
  have made : ∀ (bs : Int), StackAt ((w.alloc (.cells (cells rep) 3)).alloc (.cells #[.int .i64 bs, .slice (some ⟨w.heap.size, 0, none⟩) n n] 74)) (w.heap.size + 1) w.heap.size bs rep := by
    intro bs
    refine ⟨?_, (Blk.new w _ _).alloc _, by omega, by omega⟩
    have := Blk.new (w.alloc (.cells (cells rep) 3)) #[.int .i64 bs, .slice (some ⟨w.heap.size, 0, none⟩) n n] 74
    rw [World.size_alloc] at this
    rw [hrep]
    exact this
  have HM := Lib.hid made
  have HR := Lib.hid hrep
  clear made hrep
  by_cases hs : serial < 0
  · rw [show min (max serial 0) 100000 * 8192 = 0 by omega]
    go_enter Try.func13, Try.ntmps13
    go_wp2_with fail
    go_ret
    exact ⟨rfl, HM.out _, ((Below.refl _ _).alloc (Nat.le_refl _) _).alloc (by simp) _⟩
  by_cases hs2 : 100000 < serial
  · rw [show min (max serial 0) 100000 * 8192 = 819200000 by omega]
    go_enter Try.func13, Try.ntmps13
    go_wp2_with fail
    go_ret
    exact ⟨rfl, HM.out _, ((Below.refl _ _).alloc (Nat.le_refl _) _).alloc (by simp) _⟩
  · rw [show min (max serial 0) 100000 = serial by omega]
    go_enter Try.func13, Try.ntmps13
    go_wp2_with fail
    go_ret
    exact ⟨rfl, HM.out _, ((Below.refl _ _).alloc (Nat.le_refl _) _).alloc (by simp) _⟩
theorem new_hi (serial words : Int) (n : Nat) (rep : List Int) (w : World) (hw : 4096 < words) (hrep : rep.length = n) (h0 : 0 < n) (h4 : n ≤ 4096)
    (hmk : ∀ W : World, (Instr.makeSlice 46 (.int .i64 4096) (.int .i64 4096)).run Try.prog W = .ok (.slice (some ⟨W.heap.size, 0, none⟩) n n) (W.alloc (.cells (cells rep) 3))) :
    Calls Try.prog 13 #[.int .i64 serial, .int .i64 words] w fun e w' => e = .returned (.pointer (some ⟨w.heap.size + 1, 0, none⟩)) ∧
      StackAt w' (w.heap.size + 1) w.heap.size (1073741824 + min (max serial 0) 100000 * 8192) rep ∧ Below w.heap.size w w' := by
  have made : ∀ (bs : Int), StackAt ((w.alloc (.cells (cells rep) 3)).alloc (.cells #[.int .i64 bs, .slice (some ⟨w.heap.size, 0, none⟩) n n] 74)) (w.heap.size + 1) w.heap.size bs rep := by
    intro bs
    refine ⟨?_, (Blk.new w _ _).alloc _, by omega, by omega⟩
    have := Blk.new (w.alloc (.cells (cells rep) 3)) #[.int .i64 bs, .slice (some ⟨w.heap.size, 0, none⟩) n n] 74
    rw [World.size_alloc] at this
    rw [hrep]
    exact this
  have HM := Lib.hid made
  have HR := Lib.hid hrep
  clear made hrep
  by_cases hs : serial < 0
  · rw [show min (max serial 0) 100000 * 8192 = 0 by omega]
    go_enter Try.func13, Try.ntmps13
    go_wp2_with fail
    go_ret
    exact ⟨rfl, HM.out _, ((Below.refl _ _).alloc (Nat.le_refl _) _).alloc (by simp) _⟩
  by_cases hs2 : 100000 < serial
  · rw [show min (max serial 0) 100000 * 8192 = 819200000 by omega]
    go_enter Try.func13, Try.ntmps13
    go_wp2_with fail
    go_ret
    exact ⟨rfl, HM.out _, ((Below.refl _ _).alloc (Nat.le_refl _) _).alloc (by simp) _⟩
  · rw [show min (max serial 0) 100000 = serial by omega]
    go_enter Try.func13, Try.ntmps13
    go_wp2_with fail
    go_ret
    exact ⟨rfl, HM.out _, ((Below.refl _ _).alloc (Nat.le_refl _) _).alloc (by simp) _⟩
theorem new_mid (serial words : Int) (n : Nat) (rep : List Int) (w : World) (hw : 1 ≤ words) (hw2 : words ≤ 4096) (hrep : rep.length = n) (h0 : 0 < n) (h4 : n ≤ 4096)
    (hmk : ∀ W : World, (Instr.makeSlice 46 (.int .i64 words) (.int .i64 words)).run Try.prog W = .ok (.slice (some ⟨W.heap.size, 0, none⟩) n n) (W.alloc (.cells (cells rep) 3))) :
    Calls Try.prog 13 #[.int .i64 serial, .int .i64 words] w fun e w' => e = .returned (.pointer (some ⟨w.heap.size + 1, 0, none⟩)) ∧
      StackAt w' (w.heap.size + 1) w.heap.size (1073741824 + min (max serial 0) 100000 * 8192) rep ∧ Below w.heap.size w w' := by
  have made : ∀ (bs : Int), StackAt ((w.alloc (.cells (cells rep) 3)).alloc (.cells #[.int .i64 bs, .slice (some ⟨w.heap.size, 0, none⟩) n n] 74)) (w.heap.size + 1) w.heap.size bs rep := by
    intro bs
    refine ⟨?_, (Blk.new w _ _).alloc _, by omega, by omega⟩
    have := Blk.new (w.alloc (.cells (cells rep) 3)) #[.int .i64 bs, .slice (some ⟨w.heap.size, 0, none⟩) n n] 74
    rw [World.size_alloc] at this
    rw [hrep]
    exact this
  have HM := Lib.hid made
  have HR := Lib.hid hrep
  clear made hrep
  by_cases hs : serial < 0
  · rw [show min (max serial 0) 100000 * 8192 = 0 by omega]
    go_enter Try.func13, Try.ntmps13
    go_wp2_with fail
    go_ret
    exact ⟨rfl, HM.out _, ((Below.refl _ _).alloc (Nat.le_refl _) _).alloc (by simp) _⟩
  by_cases hs2 : 100000 < serial
  · rw [show min (max serial 0) 100000 * 8192 = 819200000 by omega]
    go_enter Try.func13, Try.ntmps13
    go_wp2_with fail
    go_ret
    exact ⟨rfl, HM.out _, ((Below.refl _ _).alloc (Nat.le_refl _) _).alloc (by simp) _⟩
  · rw [show min (max serial 0) 100000 = serial by omega]
    go_enter Try.func13, Try.ntmps13
    go_wp2_with fail
    go_ret
    exact ⟨rfl, HM.out _, ((Below.refl _ _).alloc (Nat.le_refl _) _).alloc (by simp) _⟩
theorem new_any (serial words : Int) (w : World) :
    Calls Try.prog 13 #[.int .i64 serial, .int .i64 words] w fun e w' => e = .returned (.pointer (some ⟨w.heap.size + 1, 0, none⟩)) ∧
      StackAt w' (w.heap.size + 1) w.heap.size (1073741824 + min (max serial 0) 100000 * 8192) (List.replicate (min (max words 1) 4096).toNat 0) ∧ Below w.heap.size w w' := by
  have hmk := fun (W : World) (n : Nat) (hn : n ≤ 4096) => run_make_row' (P := Try.prog) 46 3 (.int .i64 0) 8 Try.underlying46 infoI rfl .i64 .i64 n (by omega) (by omega) W
  obtain ⟨n, hn⟩ : ∃ n : Nat, (min (max words 1) 4096).toNat = n := ⟨_, rfl⟩
  rw [hn]
  have hm2 := fun W => hmk W n (by omega)
  simp only [made_cells] at hm2
  by_cases h1 : words < 1
  · obtain rfl : n = 1 := by omega
    exact new_lo serial words _ _ w h1 (by simp) (by omega) (by omega) hm2
  by_cases h2 : 4096 < words
  · obtain rfl : n = 4096 := by omega
    exact new_hi serial words _ _ w h2 (by rw [List.length_replicate]) (by omega) (by omega) hm2
  · obtain rfl : words = (n : Int) := by omega
    exact new_mid serial _ _ _ w (by omega) (by omega) (by rw [List.length_replicate]) (by omega) (by omega) hm2
end Go.Proofs.Ytpdleckflcangaa.Stk
