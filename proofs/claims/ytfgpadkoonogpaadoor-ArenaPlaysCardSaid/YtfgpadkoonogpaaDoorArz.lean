/- Package arena: the contracts of Find, Size, Load, Store. Package arena: the contracts of Drop, Room, Free. Package arena: the contracts of New and Grow. Printed by gen/ar4.py. Package arena: the contracts of Grow and Take. Package arena: the contract of Take. Package arena: the walk of Take. Package arena: the contract of All. Package arena: the walk of All. An arena of the call's own. What Grow and Take have done, told from what was there. -/
import Derived.Test.YtfgpadkoonogpaaDoorAr
import Derived.Deep.OwnRows
import Derived.Lib.SliceRun
import Derived.Deep.RegionLaw
namespace Go.Proofs.YtfgpadkoonogpaaDoor.Ar
open Go.RowKit Pg
set_option linter.unusedSimpArgs false
set_option linter.unusedVariables false

theorem blk_ne {w : World} {b b' : Nat} {cs cs' : Array Value} {T T' : TypeId} (h : Blk w b cs T) (h' : Blk w b' cs' T') (hT : T ≠ T') : b ≠ b' := by
  rintro rfl
  have e : some (Obj.cells cs T (0, 0)) = some (Obj.cells cs' T' (0, 0)) := h.symm.trans h'
  injection e with e
  injection e with e1 e2
  exact hT e2
/-- What a slot found means. -/
theorem slot_some {w : World} {b gp gw : Nat} {ps : List (Option PM)} {ws : List Int} (h : ArenaAt w b gp gw ps ws) {addr : Int} {k s : Nat} {p : PM} (e : slot ps addr = some (k, p, s)) :
    ps[k]? = some (some p) ∧ p.U.testBit s = true ∧ s < p.n ∧ 1048576 ≤ addr ∧ (addr - 1048576) / 32 = k ∧ (addr - 1048576) % 32 / Cls.csz p.c = s ∧ 0 < Cls.csz p.c ∧ get ps (k : Int) = some p ∧ base ps k s = 1048576 + k * 32 + s * Cls.csz p.c := by
  unfold slot at e
  split at e
  · cases e
  rename_i h1
  rcases hg : get ps ((addr - 1048576) / 32) with _ | q
  · rw [hg] at e; cases e
  rw [hg] at e
  dsimp only at e
  split at e
  · rename_i h2
    have e := Option.some.inj e
    injection e with e1 e2
    injection e2 with e2 e3
    subst e2
    obtain ⟨j, hj, hjq⟩ := get_some hg
    have hk : k = j := by omega
    subst hk
    have hz := Cls.csz_bd q.c
    have hq0 : 0 ≤ (addr - 1048576) % 32 / Cls.csz q.c := Int.ediv_nonneg (by omega) hz.1
    have hs : (addr - 1048576) % 32 / Cls.csz q.c = (s : Int) := by omega
    have hb : q.U.testBit s = true := by
      have := h2.2
      rw [hs, at_nat] at this
      exact this
    have hp := h.page _ q hjq
    have hsn := hp.1.inU s hb
    have hz0 : 0 < Cls.csz q.c := by
      rcases Int.lt_or_eq_of_le hz.1 with h | h
      · exact h
      · have := h2.1
        rw [← h, Int.mul_zero] at this
        omega
    have hgk : get ps (k : Int) = some q := by rw [← hj]; exact hg
    exact ⟨hjq, hb, hsn, by omega, by omega, hs, hz0, hgk, by rw [base_some hgk, if_pos (by omega)]⟩
  · cases e
theorem slot_word {w : World} {b gp gw : Nat} {ps : List (Option PM)} {ws : List Int} (h : ArenaAt w b gp gw ps ws) {addr : Int} {k s : Nat} {p : PM} (e : slot ps addr = some (k, p, s)) :
    ∃ i : Nat, addr - 1048576 = i ∧ i < ws.length := by
  obtain ⟨h1, -, -, h2, h3, -⟩ := slot_some h e
  have := (List.getElem?_eq_some_iff.1 h1).1
  have := h.hw
  exact ⟨(addr - 1048576).toNat, by omega, by omega⟩
def fbase (ps : List (Option PM)) (addr : Int) : Int := match slot ps addr with | none => 0 | some (k, _, s) => base ps k s
theorem placed_none {e : Ending} (h : Placed none e) : ∃ x y, e = .returned (.tuple #[.int .i64 x, .int .i64 y, .bool false]) := h
theorem placed_some {e : Ending} {k s : Nat} {p : PM} (h : Placed (some (k, p, s)) e) : e = .returned (.tuple #[.int .i64 k, .int .i64 s, .bool true]) := h
theorem find_any (b gp gw : Nat) (ps : List (Option PM)) (ws : List Int) (addr : Int) (w : World) (h : ArenaAt w b gp gw ps ws) (ha : addr ≤ 9223372036854775807) :
    Calls Tryd.prog 19 #[.pointer (some ⟨b, 0, none⟩), .int .i64 addr] w fun e w' => e = .returned (.tuple #[.int .i64 (fbase ps addr), .bool (slot ps addr).isSome]) ∧ ∃ n, w' = w.drewN n := by
  have H := Lib.hid h
  have HP := Lib.hid (place_any b gp gw ps ws addr w h ha)
  unfold fbase
  rcases hs : slot ps addr with _ | ⟨k, p, s⟩
  · rw [hs] at HP
    clear h hs
    go_enter Tryd.func19, Tryd.ntmps19
    go_wp2_with fail
    refine HP.out.mono ?_
    rintro e w1 ⟨he, rfl⟩
    obtain ⟨x, y, rfl⟩ := placed_none he
    dsimp only
    go_wp2_with fail
    go_ret2
    exact ⟨rfl, 0, rfl⟩
  · rw [hs] at HP
    clear h hs
    go_enter Tryd.func19, Tryd.ntmps19
    go_wp2_with fail
    refine HP.out.mono ?_
    rintro e w1 ⟨he, rfl⟩
    obtain rfl := placed_some he
    dsimp only
    go_wp2_with fail
    refine (base_any _ _ _ _ _ _ _ _ H.out).mono ?_
    rintro e w1 ⟨rfl, d, rfl⟩
    dsimp only
    go_wp2_with fail
    go_ret2
    exact ⟨rfl, d, rfl⟩
theorem find_nil (addr : Int) (w : World) (ha : addr ≤ 9223372036854775807) :
    Calls Tryd.prog 19 #[.pointer none, .int .i64 addr] w fun e w' => e = .returned (.tuple #[.int .i64 0, .bool false]) ∧ w = w' := by
  go_enter Tryd.func19, Tryd.ntmps19
  go_wp2_with fail
  refine (place_nil _ _ ha).mono ?_
  rintro e w1 ⟨he, rfl⟩
  obtain ⟨x, y, rfl⟩ := placed_none he
  dsimp only
  go_wp2_with fail
  go_ret2
  exact ⟨rfl, rfl⟩
def fsize (ps : List (Option PM)) (addr : Int) : Int := match slot ps addr with | none => 0 | some (_, p, _) => Cls.csz p.c
theorem size_any (b gp gw : Nat) (ps : List (Option PM)) (ws : List Int) (addr : Int) (w : World) (h : ArenaAt w b gp gw ps ws) (ha : addr ≤ 9223372036854775807) :
    Calls Tryd.prog 21 #[.pointer (some ⟨b, 0, none⟩), .int .i64 addr] w fun e w' => e = .returned (.int .i64 (fsize ps addr)) ∧ w = w' := by
  have H := Lib.hid h
  have HP := Lib.hid (place_any b gp gw ps ws addr w h ha)
  unfold fsize
  rcases hs : slot ps addr with _ | ⟨k, p, s⟩
  · rw [hs] at HP
    clear h hs
    go_enter Tryd.func21, Tryd.ntmps21
    go_wp2_with fail
    refine HP.out.mono ?_
    rintro e w1 ⟨he, rfl⟩
    obtain ⟨x, y, rfl⟩ := placed_none he
    dsimp only
    go_wp2_with fail
    go_ret
    exact ⟨rfl, rfl⟩
  · obtain ⟨hk, -, -, -, -, -, -, hg, -⟩ := slot_some h hs
    have HG := Lib.hid hg
    have HA := Lib.hid (h.page k p hk).1
    rw [hs] at HP
    clear h hs hg hk
    go_enter Tryd.func21, Tryd.ntmps21
    go_wp2_with fail
    refine HP.out.mono ?_
    rintro e w1 ⟨he, rfl⟩
    obtain rfl := placed_some he
    dsimp only
    go_wp2_with fail
    refine (page_any _ _ _ _ _ _ _ H.out).mono ?_
    rw [HG.out]
    rintro e w1 ⟨rfl, rfl⟩
    dsimp only [ptr]
    go_wp2_with fail
    refine (class_any _ _ _ _ _ _ HA.out).mono ?_
    rintro e w1 ⟨rfl, rfl⟩
    dsimp only
    go_wp2_with fail
    refine (Cls.size_any _ _).mono ?_
    rintro e w1 ⟨rfl, rfl⟩
    dsimp only
    go_wp2_with fail
    go_ret
    exact ⟨rfl, rfl⟩
theorem size_nil (addr : Int) (w : World) (ha : addr ≤ 9223372036854775807) :
    Calls Tryd.prog 21 #[.pointer none, .int .i64 addr] w fun e w' => e = .returned (.int .i64 0) ∧ w = w' := by
  go_enter Tryd.func21, Tryd.ntmps21
  go_wp2_with fail
  refine (place_nil _ _ ha).mono ?_
  rintro e w1 ⟨he, rfl⟩
  obtain ⟨x, y, rfl⟩ := placed_none he
  dsimp only
  go_wp2_with fail
  go_ret
  exact ⟨rfl, rfl⟩
def fword (ps : List (Option PM)) (ws : List Int) (addr : Int) : Int := match slot ps addr with | none => 0 | some _ => ws.getD (addr - 1048576).toNat 0
theorem load_any (b gp gw : Nat) (ps : List (Option PM)) (ws : List Int) (addr : Int) (w : World) (h : ArenaAt w b gp gw ps ws) (ha : addr ≤ 9223372036854775807) :
    Calls Tryd.prog 20 #[.pointer (some ⟨b, 0, none⟩), .int .i64 addr] w fun e w' => e = .returned (.tuple #[.int .i64 (fword ps ws addr), .bool (slot ps addr).isSome]) ∧ ∃ n, w' = w.drewN n := by
  have HF := Lib.hid (find_any b gp gw ps ws addr w h ha)
  unfold fword
  rcases hs : slot ps addr with _ | ⟨k, p, s⟩
  · rw [hs] at HF
    clear h hs
    go_enter Tryd.func20, Tryd.ntmps20
    go_wp2_with fail
    refine HF.out.mono ?_
    rintro e w1 ⟨rfl, d, rfl⟩
    dsimp only [Option.isSome]
    go_wp2_with fail
    go_ret2
    exact ⟨rfl, d, rfl⟩
  · obtain ⟨i, hi, hl⟩ := slot_word h hs
    obtain ⟨x, hx⟩ : ∃ x, ws[i]? = some x := ⟨ws[i], List.getElem?_eq_getElem hl⟩
    have hv : ws.getD (addr - 1048576).toNat 0 = x := by rw [hi]; simp [List.getD, hx]
    have hc : w.cell? ⟨gw, i, none⟩ = some (.int .i64 x) := (h.roww.cell i).trans (cells_get hx)
    have hm : ws.length ≤ 2048 := by have := h.hn; have := h.hw; omega
    obtain ⟨c0, c1, f0, f1⟩ := h.blk.two
    rw [hs] at HF
    rw [hv]
    clear h hs hx hv
    go_enter Tryd.func20, Tryd.ntmps20
    go_wp2_with fail
    refine HF.out.mono ?_
    rintro e w1 ⟨rfl, d, rfl⟩
    dsimp only [Option.isSome]
    go_wp2_with (simp only [hi])
    go_ret2
    exact ⟨rfl, d, rfl⟩
theorem load_nil (addr : Int) (w : World) (ha : addr ≤ 9223372036854775807) :
    Calls Tryd.prog 20 #[.pointer none, .int .i64 addr] w fun e w' => e = .returned (.tuple #[.int .i64 0, .bool false]) ∧ w = w' := by
  go_enter Tryd.func20, Tryd.ntmps20
  go_wp2_with fail
  refine (find_nil _ _ ha).mono ?_
  rintro e w1 ⟨rfl, rfl⟩
  dsimp only
  go_wp2_with fail
  go_ret2
  exact ⟨rfl, rfl⟩
theorem store_no (b gp gw : Nat) (ps : List (Option PM)) (ws : List Int) (addr v : Int) (w : World) (h : ArenaAt w b gp gw ps ws) (ha : addr ≤ 9223372036854775807) (hs : slot ps addr = none) :
    Calls Tryd.prog 13 #[.pointer (some ⟨b, 0, none⟩), .int .i64 addr, .int .i64 v] w fun e w' => e = .returned (.bool false) ∧ ∃ n, w' = w.drewN n := by
  have HF := Lib.hid (find_any b gp gw ps ws addr w h ha)
  rw [hs] at HF
  clear h hs
  go_enter Tryd.func13, Tryd.ntmps13
  go_wp2_with fail
  refine HF.out.mono ?_
  rintro e w1 ⟨rfl, d, rfl⟩
  dsimp only [Option.isSome]
  go_wp2_with fail
  go_ret
  exact ⟨rfl, d, rfl⟩
theorem ArenaAt.word {w : World} {b gp gw : Nat} {ps : List (Option PM)} {ws : List Int} (h : ArenaAt w b gp gw ps ws) (i : Nat) (v : Int) : ArenaAt (w.setCell ⟨gw, i, none⟩ (.int .i64 v)) b gp gw ps (ws.set i v) :=
  ⟨by rw [List.length_set]; exact h.blk.other (blk_ne h.blk h.roww (by decide)) _, h.rowp.other (blk_ne h.rowp h.roww (by decide)) _, (h.roww.set i _).of_eq (cells_set ws i v), h.hn, by rw [List.length_set]; exact h.hw,
    fun k p hk => ⟨(h.page k p hk).1.keep (Below.heap_setCell w ⟨gw, i, none⟩ _ p.b (blk_ne (h.page k p hk).1.blk h.roww (by decide))), (h.page k p hk).2⟩, h.inj⟩
theorem store_yes (b gp gw : Nat) (ps : List (Option PM)) (ws : List Int) (addr v : Int) (w : World) (h : ArenaAt w b gp gw ps ws) (ha : addr ≤ 9223372036854775807) (hs : (slot ps addr).isSome = true) :
    Calls Tryd.prog 13 #[.pointer (some ⟨b, 0, none⟩), .int .i64 addr, .int .i64 v] w fun e w' => e = .returned (.bool true) ∧ ArenaAt w' b gp gw ps (ws.set (addr - 1048576).toNat v) ∧ Kept (fun i => i = gw) w w' := by
  have HF := Lib.hid (find_any b gp gw ps ws addr w h ha)
  obtain ⟨⟨k, p, s⟩, hs⟩ := Option.isSome_iff_exists.1 hs
  obtain ⟨i, hi, hl⟩ := slot_word h hs
  obtain ⟨x, hx⟩ : ∃ x, ws[i]? = some x := ⟨ws[i], List.getElem?_eq_getElem hl⟩
  have hc : w.cell? ⟨gw, i, none⟩ = some (.int .i64 x) := (h.roww.cell i).trans (cells_get hx)
  have hf : w.frozen? ⟨gw, i, none⟩ = false := h.roww.free i
  have hm : ws.length ≤ 2048 := by have := h.hn; have := h.hw; omega
  obtain ⟨c0, c1, f0, f1⟩ := h.blk.two
  have H := Lib.hid h
  rw [hs] at HF
  rw [show (addr - 1048576).toNat = i by omega]
  clear h hs hx
  go_enter Tryd.func13, Tryd.ntmps13
  go_wp2_with fail
  refine HF.out.mono ?_
  rintro e w1 ⟨rfl, d, rfl⟩
  dsimp only [Option.isSome]
  go_wp2_with (simp only [hi])
  go_ret
  exact ⟨rfl, (H.out.drewN d).word i v, ((Kept.refl (fun i => i = gw) w).drewN d).set (p := ⟨gw, i, none⟩) (.inl rfl) _⟩
theorem store_nil (addr v : Int) (w : World) (ha : addr ≤ 9223372036854775807) :
    Calls Tryd.prog 13 #[.pointer none, .int .i64 addr, .int .i64 v] w fun e w' => e = .returned (.bool false) ∧ w = w' := by
  go_enter Tryd.func13, Tryd.ntmps13
  go_wp2_with fail
  refine (find_nil _ _ ha).mono ?_
  rintro e w1 ⟨rfl, rfl⟩
  dsimp only
  go_wp2_with fail
  go_ret
  exact ⟨rfl, rfl⟩
end Go.Proofs.YtfgpadkoonogpaaDoor.Ar

namespace Go.Proofs.YtfgpadkoonogpaaDoor.Ar
open Go.RowKit Pg
set_option linter.unusedSimpArgs false
set_option linter.unusedVariables false

theorem drop_no (b gp gw : Nat) (ps : List (Option PM)) (ws : List Int) (k : Int) (w : World) (h : ArenaAt w b gp gw ps ws) (hk : ∀ p, get ps k = some p → 0 < (Bit.bl p.U).length) :
    Calls Tryd.prog 14 #[.pointer (some ⟨b, 0, none⟩), .int .i64 k] w fun e w' => e = .returned (.bool false) ∧ ∃ n, w' = w.drewN n := by
  have H := Lib.hid h
  rcases hg : get ps k with _ | p
  · have HG := Lib.hid hg
    clear h hk hg
    go_enter Tryd.func14, Tryd.ntmps14
    go_wp2_with fail
    refine (page_any _ _ _ _ _ _ _ H.out).mono ?_
    rw [HG.out]
    rintro e w1 ⟨rfl, rfl⟩
    dsimp only [ptr]
    go_wp2_with fail
    refine (count_nil _).mono ?_
    rintro e w1 ⟨rfl, rfl⟩
    dsimp only
    go_wp2_with fail
    go_ret
    exact ⟨rfl, 0, rfl⟩
  · have HG := Lib.hid hg
    obtain ⟨j, rfl, hj⟩ := get_some hg
    have hp := hk p hg
    have hp0 : (0 : Int) < ((Bit.bl p.U).length : Int) := by omega
    have HP := Lib.hid (h.page j p hj).1
    clear h hk hg hj hp
    go_enter Tryd.func14, Tryd.ntmps14
    go_wp2_with fail
    refine (page_any _ _ _ _ _ _ _ H.out).mono ?_
    rw [HG.out]
    rintro e w1 ⟨rfl, rfl⟩
    dsimp only [ptr]
    go_wp2_with fail
    refine (count_any _ _ _ _ _ _ HP.out).mono ?_
    rintro e w1 ⟨rfl, d, rfl⟩
    dsimp only
    go_wp2_with fail
    go_ret
    exact ⟨rfl, d, rfl⟩
theorem ArenaAt.page_set {w : World} {b gp gw : Nat} {ps : List (Option PM)} {ws : List Int} (h : ArenaAt w b gp gw ps ws) (k : Nat) : ArenaAt (w.setCell ⟨gp, k, none⟩ (.pointer none)) b gp gw (ps.set k none) ws :=
  ⟨by rw [List.length_set]; exact h.blk.other (blk_ne h.blk h.rowp (by decide)) _, (h.rowp.set k _).of_eq (pgs_set ps k none), h.roww.other (blk_ne h.roww h.rowp (by decide)) _, by rw [List.length_set]; exact h.hn, by rw [List.length_set]; exact h.hw,
    fun i p hi => by
      have hi' : ps[i]? = some (some p) := by
        by_cases e : k = i
        · subst e
          rw [List.getElem?_set] at hi
          simp at hi
        · rwa [List.getElem?_set_ne e] at hi
      exact ⟨(h.page i p hi').1.keep (Below.heap_setCell w ⟨gp, k, none⟩ _ p.b (blk_ne (h.page i p hi').1.blk h.rowp (by decide))), (h.page i p hi').2⟩,
    fun i j p q hi hj e => by
      have hx : ∀ (i : Nat) (p : PM), (ps.set k none)[i]? = some (some p) → ps[i]? = some (some p) := by
        intro i p hi
        by_cases e : k = i
        · subst e
          rw [List.getElem?_set] at hi
          simp at hi
        · rwa [List.getElem?_set_ne e] at hi
      exact h.inj i j p q (hx i p hi) (hx j q hj) e⟩
theorem drop_yes (b gp gw : Nat) (ps : List (Option PM)) (ws : List Int) (k : Nat) (p : PM) (w : World) (h : ArenaAt w b gp gw ps ws) (hk : ps[k]? = some (some p)) (h0 : (Bit.bl p.U).length = 0) :
    Calls Tryd.prog 14 #[.pointer (some ⟨b, 0, none⟩), .int .i64 k] w fun e w' => e = .returned (.bool true) ∧ ArenaAt w' b gp gw (ps.set k none) ws ∧ Kept (fun i => i = gp) w w' := by
  have H := Lib.hid h
  have hg : get ps (k : Int) = some p := by rw [get_nat, hk]; rfl
  have HG := Lib.hid hg
  have HP := Lib.hid (h.page k p hk).1
  have hl := get_lt hg
  have hn := h.hn
  have hc : w.cell? ⟨gp, k, none⟩ = some (ptr (some p)) := (h.rowp.cell k).trans (pgs_get hk)
  have hf : w.frozen? ⟨gp, k, none⟩ = false := h.rowp.free k
  obtain ⟨c0, c1, f0, f1⟩ := h.blk.two
  have hp0 : ¬ (0 : Int) < ((Bit.bl p.U).length : Int) := by omega
  unfold ptr at hc
  clear h hg hk
  go_enter Tryd.func14, Tryd.ntmps14
  go_wp2_with fail
  refine (page_any _ _ _ _ _ _ _ H.out).mono ?_
  rw [HG.out]
  rintro e w1 ⟨rfl, rfl⟩
  dsimp only [ptr]
  go_wp2_with fail
  refine (count_any _ _ _ _ _ _ HP.out).mono ?_
  rintro e w1 ⟨rfl, d, rfl⟩
  dsimp only
  go_wp2_with fail
  go_ret
  exact ⟨rfl, (H.out.drewN d).page_set k, ((Kept.refl (fun i => i = gp) w).drewN d).set (p := ⟨gp, k, none⟩) (.inl rfl) _⟩
theorem drop_nil (k : Int) (w : World) :
    Calls Tryd.prog 14 #[.pointer none, .int .i64 k] w fun e w' => e = .returned (.bool false) ∧ w = w' := by
  go_enter Tryd.func14, Tryd.ntmps14
  go_wp2_with fail
  refine (page_nil _ _).mono ?_
  rintro e w1 ⟨rfl, rfl⟩
  dsimp only
  go_wp2_with fail
  refine (count_nil _).mono ?_
  rintro e w1 ⟨rfl, rfl⟩
  dsimp only
  go_wp2_with fail
  go_ret
  exact ⟨rfl, rfl⟩
/-- How many pages have no class. -/
def nf (ps : List (Option PM)) : Nat := ps.countP Option.isNone
theorem nf_succ {ps : List (Option PM)} {j : Nat} {p : Option PM} (h : ps[j]? = some p) : nf (ps.take (j + 1)) = nf (ps.take j) + if p.isNone then 1 else 0 := by
  unfold nf
  rw [List.take_add_one, h, List.countP_append]
  cases p <;> rfl
theorem nf_le (ps : List (Option PM)) : nf ps ≤ ps.length := List.countP_le_length
theorem room_any (b gp gw : Nat) (ps : List (Option PM)) (ws : List Int) (w : World) (h : ArenaAt w b gp gw ps ws) :
    Calls Tryd.prog 17 #[.pointer (some ⟨b, 0, none⟩)] w fun e w' => e = .returned (.tuple #[.int .i64 (nf ps), .int .i64 ps.length]) ∧ ∃ n, w' = w.drewN n := by
  have hn := h.hn
  obtain ⟨c0, c1, f0, f1⟩ := h.blk.two
  have H := Lib.hid h
  clear h
  go_enter Tryd.func17, Tryd.ntmps17
  go_wp2_with fail
  go_loopw [4, 14] (fun n i wr => ∃ j : Nat, j ≤ ps.length ∧ n = .int .i64 (nf (ps.take j)) ∧ i = .int .i64 j ∧ wr = w) (fun _ i _ => ps.length - (intOf i).toNat)
  case atStart => exact ⟨0, Nat.zero_le _, rfl, rfl, rfl⟩
  case round =>
    obtain ⟨j, hj, rfl, rfl, rfl⟩ := hrel
    have hnn := nf_le (ps.take j)
    rw [List.length_take] at hnn
    by_cases hlt : j < ps.length
    · obtain ⟨p, hp⟩ : ∃ p, ps[j]? = some p := ⟨ps[j], List.getElem?_eq_getElem hlt⟩
      have hc := (H.out.rowp.cell j).trans (pgs_get hp)
      have HS := Lib.hid (nf_succ hp)
      have h3 : (j : Int) < (ps.length : Int) := by omega
      clear hp
      cases p with
      | none =>
        unfold ptr at hc
        go_wp2_with fail
        go_roundw
        case rel => exact ⟨j + 1, by omega, by rw [HS.out]; rfl, rfl, trivial⟩
        case measure => simp [intOf]; omega
      | some p =>
        unfold ptr at hc
        go_wp2_with fail
        go_roundw
        case rel => exact ⟨j + 1, by omega, by rw [HS.out]; rfl, rfl, trivial⟩
        case measure => simp [intOf]; omega
    · obtain rfl : j = ps.length := by omega
      rw [List.take_length]
      go_wp2_with fail
      go_quiet (fail)
      go_wp2_with fail
      go_ret2
      exact ⟨rfl, _, rfl⟩
theorem room_nil (w : World) : Calls Tryd.prog 17 #[.pointer none] w fun e w' => e = .returned (.tuple #[.int .i64 0, .int .i64 0]) ∧ w = w' := by
  go_enter Tryd.func17, Tryd.ntmps17
  go_wp2_with fail
  go_ret2
  exact ⟨rfl, rfl⟩
/-- A page's masks turn, and nothing else. -/
theorem ArenaAt.turn {w w' : World} {b gp gw : Nat} {ps : List (Option PM)} {ws : List Int} (h : ArenaAt w b gp gw ps ws) {k : Nat} {p : PM} (hk : ps[k]? = some (some p)) {U M : Nat}
    (hp : PageAt w' p.b p.c p.n U M) (hK : Kept (fun i => i = p.b) w w') : ArenaAt w' b gp gw (ps.set k (some ⟨p.b, p.c, p.n, U, M⟩)) ws := by
  have hl := (List.getElem?_eq_some_iff.1 hk).1
  have hpp := (h.page k p hk).1.blk
  have hx : ∀ (i : Nat) (q : PM), (ps.set k (some ⟨p.b, p.c, p.n, U, M⟩))[i]? = some (some q) → (i = k ∧ q = ⟨p.b, p.c, p.n, U, M⟩) ∨ (i ≠ k ∧ ps[i]? = some (some q)) := by
    intro i q hi
    by_cases e : k = i
    · subst e
      rw [List.getElem?_set_self hl] at hi
      exact .inl ⟨rfl, (Option.some.inj (Option.some.inj hi)).symm⟩
    · rw [List.getElem?_set_ne e] at hi
      exact .inr ⟨fun e' => e e'.symm, hi⟩
  refine ⟨by rw [List.length_set]; exact hK.blk h.blk (blk_ne h.blk hpp (by decide)), ?_, hK.blk h.roww (blk_ne h.roww hpp (by decide)), by rw [List.length_set]; exact h.hn, by rw [List.length_set]; exact h.hw, ?_, ?_⟩
  · refine (hK.blk h.rowp (blk_ne h.rowp hpp (by decide))).of_eq ?_
    rw [← pgs_set]
    apply Array.ext
    · simp
    · intro i h1 h2
      rw [Array.getElem_setIfInBounds]
      split
      · rename_i e
        subst e
        have := pgs_get hk
        rw [Array.getElem?_eq_getElem h1] at this
        exact Option.some.inj this
      · rfl
  · intro i q hi
    rcases hx i q hi with ⟨rfl, rfl⟩ | ⟨hne, hi⟩
    · exact ⟨hp, (h.page i p hk).2⟩
    · have hq := h.page i q hi
      exact ⟨hq.1.keep (hK.block _ hq.1.blk.lt (fun e => hne (h.inj i k q p hi hk e))), hq.2⟩
  · intro i j q r hi hj e
    rcases hx i q hi with ⟨hik, rfl⟩ | ⟨hne, hi'⟩
    · rcases hx j r hj with ⟨hjk, rfl⟩ | ⟨hne', hj'⟩
      · rw [hik, hjk]
      · rw [hik]; exact h.inj k j p r hk hj' e
    · rcases hx j r hj with ⟨hjk, rfl⟩ | ⟨hne', hj'⟩
      · rw [hjk]; exact h.inj i k q p hi' hk e
      · exact h.inj i j q r hi' hj' e
theorem free_no (b gp gw : Nat) (ps : List (Option PM)) (ws : List Int) (addr : Int) (w : World) (h : ArenaAt w b gp gw ps ws) (ha : addr ≤ 9223372036854775807) (hs : ∀ k p s, slot ps addr = some (k, p, s) → base ps k s ≠ addr) :
    Calls Tryd.prog 12 #[.pointer (some ⟨b, 0, none⟩), .int .i64 addr] w fun e w' => e = .returned (.bool false) ∧ ∃ n, w' = w.drewN n := by
  have H := Lib.hid h
  have HP := Lib.hid (place_any b gp gw ps ws addr w h ha)
  rcases hsl : slot ps addr with _ | ⟨k, p, s⟩
  · rw [hsl] at HP
    clear h hs hsl
    go_enter Tryd.func12, Tryd.ntmps12
    go_wp2_with fail
    refine HP.out.mono ?_
    rintro e w1 ⟨he, rfl⟩
    obtain ⟨x, y, rfl⟩ := placed_none he
    dsimp only
    go_wp2_with fail
    go_ret
    exact ⟨rfl, 0, rfl⟩
  · have hne := hs k p s hsl
    rw [hsl] at HP
    have HN := Lib.hid (show (base ps k s == addr) = false by simpa using hne)
    clear h hs hsl hne
    go_enter Tryd.func12, Tryd.ntmps12
    go_wp2_with fail
    refine HP.out.mono ?_
    rintro e w1 ⟨he, rfl⟩
    obtain rfl := placed_some he
    dsimp only
    go_wp2_with fail
    refine (base_any _ _ _ _ _ _ _ _ H.out).mono ?_
    rintro e w1 ⟨rfl, d, rfl⟩
    dsimp only
    have hN := HN.out
    generalize base ps k s = z at *
    go_wp2_with fail
    go_ret
    exact ⟨rfl, d, rfl⟩
theorem free_yes (b gp gw : Nat) (ps : List (Option PM)) (ws : List Int) (addr : Int) (k : Nat) (p : PM) (s : Nat) (w : World) (h : ArenaAt w b gp gw ps ws) (ha : addr ≤ 9223372036854775807) (hs : slot ps addr = some (k, p, s)) (hb : base ps k s = addr) :
    Calls Tryd.prog 12 #[.pointer (some ⟨b, 0, none⟩), .int .i64 addr] w fun e w' => e = .returned (.bool true) ∧ ArenaAt w' b gp gw (ps.set k (some ⟨p.b, p.c, p.n, del p.U s, del p.M s⟩)) ws ∧ Kept (fun i => i = p.b) w w' := by
  have H := Lib.hid h
  have HP := Lib.hid (place_any b gp gw ps ws addr w h ha)
  obtain ⟨hk, hU, -, -, -, -, -, hg, -⟩ := slot_some h hs
  have HG := Lib.hid hg
  have HK := Lib.hid hk
  have HU := Lib.hid hU
  have HB := Lib.hid hb
  have HA := Lib.hid (h.page k p hk).1
  rw [hs] at HP
  clear h hs hg hk hU hb
  go_enter Tryd.func12, Tryd.ntmps12
  go_wp2_with fail
  refine HP.out.mono ?_
  rintro e w1 ⟨he, rfl⟩
  obtain rfl := placed_some he
  dsimp only
  go_wp2_with fail
  refine (base_any _ _ _ _ _ _ _ _ H.out).mono ?_
  rw [HB.out]
  rintro e w1 ⟨rfl, d, rfl⟩
  dsimp only
  have H1 := Lib.hid (H.out.drewN d)
  have HA1 := Lib.hid (HA.out.drewN d)
  go_wp2_with fail
  refine (page_any _ _ _ _ _ _ _ H1.out).mono ?_
  rw [HG.out]
  rintro e w1 ⟨rfl, rfl⟩
  dsimp only [ptr]
  go_wp2_with fail
  refine (Pg.free_yes _ _ _ _ _ _ _ HA1.out HU.out).mono ?_
  rintro e w2 ⟨rfl, hp, hK⟩
  have HR := Lib.hid (show ArenaAt w2 b gp gw (ps.set k (some ⟨p.b, p.c, p.n, del p.U s, del p.M s⟩)) ws from H1.out.turn HK.out hp hK)
  have HR2 := Lib.hid (show Kept (fun i => i = p.b) w w2 from ((Kept.refl (fun i => i = p.b) w).drewN d).trans hK)
  clear hp hK
  dsimp only
  go_wp2_with fail
  go_ret
  exact ⟨rfl, HR.out, HR2.out⟩
theorem free_nil (addr : Int) (w : World) (ha : addr ≤ 9223372036854775807) :
    Calls Tryd.prog 12 #[.pointer none, .int .i64 addr] w fun e w' => e = .returned (.bool false) ∧ w = w' := by
  go_enter Tryd.func12, Tryd.ntmps12
  go_wp2_with fail
  refine (place_nil _ _ ha).mono ?_
  rintro e w1 ⟨he, rfl⟩
  obtain ⟨x, y, rfl⟩ := placed_none he
  dsimp only
  go_wp2_with fail
  go_ret
  exact ⟨rfl, rfl⟩
end Go.Proofs.YtfgpadkoonogpaaDoor.Ar

namespace Go.Proofs.YtfgpadkoonogpaaDoor.Ar
open Go.RowKit Pg
set_option linter.unusedSimpArgs false
set_option linter.unusedVariables false

theorem infoP : (Tryd.prog.info? 54).map (fun i => (i.zero, i.size, i.bytes)) = some (some (.pointer none), 1, 8) := by kernel_rfl
theorem made_ints (n : Nat) : madeCells #[.int .i64 0] n = cells (List.replicate n 0) := by
  apply Array.ext_getElem?
  intro j
  by_cases h : j < n <;> simp [madeCells, cells, h, Nat.mod_one]
theorem made_pgs (n : Nat) : madeCells #[.pointer none] n = pgs (List.replicate n none) := by
  apply Array.ext_getElem?
  intro j
  by_cases h : j < n <;> simp [madeCells, pgs, ptr, h, Nat.mod_one]
theorem make_pgs (n : Nat) (hn : n ≤ 64) (W : World) : (Instr.makeSlice 91 (.int .i64 n) (.int .i64 n)).run Tryd.prog W = .ok (.slice (some ⟨W.heap.size, 0, none⟩) n n) (W.alloc (.cells (pgs (List.replicate n none)) 54)) := by
  have := run_make_row' (P := Tryd.prog) 91 54 (.pointer none) 8 Tryd.underlying91 infoP rfl .i64 .i64 n (by omega) (by omega) W
  rw [made_pgs] at this
  exact this
theorem make_ints (n : Nat) (hn : n ≤ 2048) (W : World) : (Instr.makeSlice 27 (.int .i64 n) (.int .i64 n)).run Tryd.prog W = .ok (.slice (some ⟨W.heap.size, 0, none⟩) n n) (W.alloc (.cells (cells (List.replicate n 0)) 3)) := by
  have := run_make_row' (P := Tryd.prog) 27 3 (.int .i64 0) 8 Tryd.underlying27 infoI rfl .i64 .i64 n (by omega) (by omega) W
  rw [made_ints] at this
  exact this
theorem ArenaAt.made {w : World} {b gp gw n m : Nat} (hn : n ≤ 64) (hm : m = 32 * n) (h1 : Blk w b #[.slice (some ⟨gp, 0, none⟩) n n, .slice (some ⟨gw, 0, none⟩) m m] 94)
    (h2 : Blk w gp (pgs (List.replicate n none)) 54) (h3 : Blk w gw (cells (List.replicate m 0)) 3) : ArenaAt w b gp gw (List.replicate n none) (List.replicate m 0) := by
  have hx : ∀ (k : Nat) (p : PM), (List.replicate n (none : Option PM))[k]? = some (some p) → False := by
    intro k p hk
    rw [List.getElem?_replicate] at hk
    split at hk <;> simp at hk
  refine ⟨?_, h2, h3, by simpa using hn, by simpa using hm, fun k p hk => (hx k p hk).elim, fun j k p q hj => (hx j p hj).elim⟩
  simp only [List.length_replicate]
  exact h1
def Made (w : World) (n : Nat) (e : Ending) (w' : World) : Prop :=
  ∃ b gp gw, e = .returned (.pointer (some ⟨b, 0, none⟩)) ∧ ArenaAt w' b gp gw (List.replicate n none) (List.replicate (32 * n) 0) ∧ w.heap.size ≤ b ∧ w.heap.size ≤ gp ∧ w.heap.size ≤ gw ∧ Below w.heap.size w w'
theorem made_12 (w : World) (n m : Nat) (hn : n ≤ 64) (hm : m = 32 * n) (RP RI : Array Value) (hP : RP = pgs (List.replicate n none)) (hI : RI = cells (List.replicate m 0)) (d : Nat) :
    Made w n (.returned (.pointer (some ⟨w.heap.size + 2, 0, none⟩))) ((((w.drewN d).alloc (.cells RP 54)).alloc (.cells RI 3)).alloc (.cells #[.slice (some ⟨w.heap.size, 0, none⟩) n n, .slice (some ⟨w.heap.size + 1, 0, none⟩) m m] 94)) := by
  subst hm
  refine ⟨_, w.heap.size, w.heap.size + 1, rfl, ArenaAt.made hn rfl ?_ ?_ ?_, by omega, by omega, by omega, (((below_drewN (Below.refl _ _) d).alloc (by simp [World.drewN]) _).alloc (by simp) _).alloc (by simp; omega) _⟩
  · have := Blk.new (((w.drewN d).alloc (.cells RP 54)).alloc (.cells RI 3)) #[.slice (some ⟨w.heap.size, 0, none⟩) n n, .slice (some ⟨w.heap.size + 1, 0, none⟩) (32 * n) (32 * n)] 94
    rw [World.size_alloc, World.size_alloc] at this
    exact this
  · rw [← hP]
    exact ((Blk.new (w.drewN d) RP 54).alloc _).alloc _
  · rw [← hI]
    have := (Blk.new ((w.drewN d).alloc (.cells RP 54)) RI 3).alloc (.cells #[.slice (some ⟨w.heap.size, 0, none⟩) n n, .slice (some ⟨w.heap.size + 1, 0, none⟩) (32 * n) (32 * n)] 94)
    rw [World.size_alloc] at this
    exact this
theorem made_21 (w : World) (n m : Nat) (hn : n ≤ 64) (hm : m = 32 * n) (RP RI : Array Value) (hP : RP = pgs (List.replicate n none)) (hI : RI = cells (List.replicate m 0)) (d : Nat) :
    Made w n (.returned (.pointer (some ⟨w.heap.size + 2, 0, none⟩))) ((((w.drewN d).alloc (.cells RI 3)).alloc (.cells RP 54)).alloc (.cells #[.slice (some ⟨w.heap.size + 1, 0, none⟩) n n, .slice (some ⟨w.heap.size, 0, none⟩) m m] 94)) := by
  subst hm
  refine ⟨_, w.heap.size + 1, w.heap.size, rfl, ArenaAt.made hn rfl ?_ ?_ ?_, by omega, by omega, by omega, (((below_drewN (Below.refl _ _) d).alloc (by simp [World.drewN]) _).alloc (by simp) _).alloc (by simp; omega) _⟩
  · have := Blk.new (((w.drewN d).alloc (.cells RI 3)).alloc (.cells RP 54)) #[.slice (some ⟨w.heap.size + 1, 0, none⟩) n n, .slice (some ⟨w.heap.size, 0, none⟩) (32 * n) (32 * n)] 94
    rw [World.size_alloc, World.size_alloc] at this
    exact this
  · rw [← hP]
    have := (Blk.new ((w.drewN d).alloc (.cells RI 3)) RP 54).alloc (.cells #[.slice (some ⟨w.heap.size + 1, 0, none⟩) n n, .slice (some ⟨w.heap.size, 0, none⟩) (32 * n) (32 * n)] 94)
    rw [World.size_alloc] at this
    exact this
  · rw [← hI]
    exact ((Blk.new (w.drewN d) RI 3).alloc _).alloc _
theorem new_lo (pages : Int) (n m : Nat) (w : World) (RP RI : Array Value) (hp : pages < 0) (hn : n ≤ 64) (hm : m = 32 * n) (hP : RP = pgs (List.replicate n none)) (hI : RI = cells (List.replicate m 0))
    (hmp : ∀ W : World, (Instr.makeSlice 91 (.int .i64 0) (.int .i64 0)).run Tryd.prog W = .ok (.slice (some ⟨W.heap.size, 0, none⟩) n n) (W.alloc (.cells RP 54)))
    (hmi : ∀ W : World, (Instr.makeSlice 27 (.int .i64 0) (.int .i64 0)).run Tryd.prog W = .ok (.slice (some ⟨W.heap.size, 0, none⟩) m m) (W.alloc (.cells RI 3))) :
    Calls Tryd.prog 7 #[.int .i64 pages] w (Made w n) := by
  have H12 := Lib.hid (made_12 w n m hn hm RP RI hP hI)
  have H21 := Lib.hid (made_21 w n m hn hm RP RI hP hI)
  have h0 : wrap64 (pages * 32) = pages * 32 ∨ True := .inr trivial
  clear h0
  clear hn hm hP hI
  go_enter Tryd.func7, Tryd.ntmps7
  go_wp2_with fail
  go_region
  all_goals
    go_wp2_with fail
    go_ret
    first | exact H12.out _ | exact H21.out _
theorem new_hi (pages : Int) (n m : Nat) (w : World) (RP RI : Array Value) (hp : 64 < pages) (hn : n ≤ 64) (hm : m = 32 * n) (hP : RP = pgs (List.replicate n none)) (hI : RI = cells (List.replicate m 0))
    (hmp : ∀ W : World, (Instr.makeSlice 91 (.int .i64 64) (.int .i64 64)).run Tryd.prog W = .ok (.slice (some ⟨W.heap.size, 0, none⟩) n n) (W.alloc (.cells RP 54)))
    (hmi : ∀ W : World, (Instr.makeSlice 27 (.int .i64 2048) (.int .i64 2048)).run Tryd.prog W = .ok (.slice (some ⟨W.heap.size, 0, none⟩) m m) (W.alloc (.cells RI 3))) :
    Calls Tryd.prog 7 #[.int .i64 pages] w (Made w n) := by
  have H12 := Lib.hid (made_12 w n m hn hm RP RI hP hI)
  have H21 := Lib.hid (made_21 w n m hn hm RP RI hP hI)
  have h0 : wrap64 (pages * 32) = pages * 32 ∨ True := .inr trivial
  clear h0
  clear hn hm hP hI
  go_enter Tryd.func7, Tryd.ntmps7
  go_wp2_with fail
  go_region
  all_goals
    go_wp2_with fail
    go_ret
    first | exact H12.out _ | exact H21.out _
theorem new_mid (pages : Int) (n m : Nat) (w : World) (RP RI : Array Value) (hp : 0 ≤ pages) (hp2 : pages ≤ 64) (hn : n ≤ 64) (hm : m = 32 * n) (hP : RP = pgs (List.replicate n none)) (hI : RI = cells (List.replicate m 0))
    (hmp : ∀ W : World, (Instr.makeSlice 91 (.int .i64 pages) (.int .i64 pages)).run Tryd.prog W = .ok (.slice (some ⟨W.heap.size, 0, none⟩) n n) (W.alloc (.cells RP 54)))
    (hmi : ∀ W : World, (Instr.makeSlice 27 (.int .i64 (pages * 32)) (.int .i64 (pages * 32))).run Tryd.prog W = .ok (.slice (some ⟨W.heap.size, 0, none⟩) m m) (W.alloc (.cells RI 3))) :
    Calls Tryd.prog 7 #[.int .i64 pages] w (Made w n) := by
  have H12 := Lib.hid (made_12 w n m hn hm RP RI hP hI)
  have H21 := Lib.hid (made_21 w n m hn hm RP RI hP hI)
  have h0 : wrap64 (pages * 32) = pages * 32 ∨ True := .inr trivial
  clear h0
  clear hn hm hP hI
  go_enter Tryd.func7, Tryd.ntmps7
  go_wp2_with fail
  go_region
  all_goals
    go_wp2_with fail
    go_ret
    first | exact H12.out _ | exact H21.out _
theorem new_any (pages : Int) (w : World) : Calls Tryd.prog 7 #[.int .i64 pages] w (Made w (min (max pages 0) 64).toNat) := by
  by_cases h1 : pages < 0
  · rw [show (min (max pages 0) 64).toNat = 0 by omega]
    exact new_lo pages 0 0 w _ _ h1 (by omega) (by omega) rfl rfl (make_pgs 0 (by omega)) (make_ints 0 (by omega))
  by_cases h2 : 64 < pages
  · rw [show (min (max pages 0) 64).toNat = 64 by omega]
    exact new_hi pages 64 2048 w _ _ h2 (by omega) (by omega) rfl rfl (make_pgs 64 (by omega)) (make_ints 2048 (by omega))
  · obtain ⟨n, rfl⟩ : ∃ n : Nat, pages = n := ⟨pages.toNat, by omega⟩
    rw [show (min (max (n : Int) 0) 64).toNat = n by omega]
    exact new_mid n n (32 * n) w _ _ (by omega) (by omega) (by omega) (by omega) rfl rfl (make_pgs n (by omega)) (by have := make_ints (32 * n) (by omega); rw [show ((32 * n : Nat) : Int) = (n : Int) * 32 by omega] at this; exact this)
end Go.Proofs.YtfgpadkoonogpaaDoor.Ar

namespace Go.Proofs.YtfgpadkoonogpaaDoor.Ar
open Go.RowKit Pg
set_option linter.unusedSimpArgs false
set_option linter.unusedVariables false

theorem ArenaAt.grow {w : World} {b gp gw : Nat} {ps : List (Option PM)} {ws : List Int} (h : ArenaAt w b gp gw ps ws) {k : Nat} {p : PM} (hk : ps[k]? = some none) (hp : PageAt w p.b p.c p.n p.U p.M ∧ Cls.csl p.c = (p.n : Int))
    (hnew : ∀ (i : Nat) (q : PM), ps[i]? = some (some q) → q.b ≠ p.b) : ArenaAt (w.setCell ⟨gp, k, none⟩ (ptr (some p))) b gp gw (ps.set k (some p)) ws := by
  have hl := (List.getElem?_eq_some_iff.1 hk).1
  have hx : ∀ (i : Nat) (q : PM), (ps.set k (some p))[i]? = some (some q) → (i = k ∧ q = p) ∨ (i ≠ k ∧ ps[i]? = some (some q)) := by
    intro i q hi
    by_cases e : k = i
    · subst e
      rw [List.getElem?_set_self hl] at hi
      exact .inl ⟨rfl, (Option.some.inj (Option.some.inj hi)).symm⟩
    · rw [List.getElem?_set_ne e] at hi
      exact .inr ⟨fun e' => e e'.symm, hi⟩
  refine ⟨by rw [List.length_set]; exact h.blk.other (blk_ne h.blk h.rowp (by decide)) _, (h.rowp.set k _).of_eq (pgs_set ps k (some p)), h.roww.other (blk_ne h.roww h.rowp (by decide)) _, by rw [List.length_set]; exact h.hn, by rw [List.length_set]; exact h.hw, ?_, ?_⟩
  · intro i q hi
    have hq : PageAt w q.b q.c q.n q.U q.M ∧ Cls.csl q.c = (q.n : Int) := by
      rcases hx i q hi with ⟨rfl, rfl⟩ | ⟨hne, hi⟩
      · exact hp
      · exact h.page i q hi
    exact ⟨hq.1.keep (Below.heap_setCell w ⟨gp, k, none⟩ _ q.b (blk_ne hq.1.blk h.rowp (by decide))), hq.2⟩
  · intro i j q r hi hj e
    rcases hx i q hi with ⟨hik, rfl⟩ | ⟨hne, hi'⟩
    · rcases hx j r hj with ⟨hjk, rfl⟩ | ⟨hne', hj'⟩
      · rw [hik, hjk]
      · exact absurd e.symm (hnew j r hj')
    · rcases hx j r hj with ⟨hjk, rfl⟩ | ⟨hne', hj'⟩
      · exact absurd e (hnew i q hi')
      · exact h.inj i j q r hi' hj' e
theorem grow_bad (a : Option Addr) (c : Int) (w : World) (hc : Cls.csl c = 0) :
    Calls Tryd.prog 9 #[.pointer a, .int .i64 c] w fun e w' => e = .returned (.bool false) ∧ w = w' := by
  have HC := Lib.hid hc
  clear hc
  rcases a with _ | a
  all_goals
    go_enter Tryd.func9, Tryd.ntmps9
    go_wp2_with fail
    refine (new_no _ _ HC.out).mono ?_
    rintro e w1 ⟨rfl, rfl⟩
    dsimp only
    go_wp2_with fail
    go_ret
    exact ⟨rfl, rfl⟩
theorem grow_nil (c : Int) (w : World) :
    Calls Tryd.prog 9 #[.pointer none, .int .i64 c] w fun e w' => e = .returned (.bool false) ∧ Below w.heap.size w w' := by
  by_cases hc : Cls.csl c = 0
  · exact (grow_bad none c w hc).mono fun e w' h => ⟨h.1, h.2 ▸ Below.refl _ _⟩
  · have hb := csl_bd c
    obtain ⟨n, hn⟩ : ∃ n : Nat, Cls.csl c = n := ⟨(Cls.csl c).toNat, by omega⟩
    have hn0 : 0 < n := by omega
    have HN := Lib.hid hn
    clear hc hn
    go_enter Tryd.func9, Tryd.ntmps9
    go_wp2_with fail
    refine (new_yes _ n _ HN.out hn0).mono ?_
    rintro e w1 ⟨rfl, hp, hb⟩
    have HB := Lib.hid hb
    clear hp hb
    dsimp only
    go_wp2_with fail
    go_ret
    exact ⟨rfl, HB.out⟩
def Grew (b gp gw : Nat) (ps : List (Option PM)) (ws : List Int) (c : Int) (n : Nat) (w : World) (e : Ending) (w' : World) : Prop :=
  (e = .returned (.bool false) ∧ (∀ i, i < ps.length → ps[i]? ≠ some none) ∧ Below w.heap.size w w') ∨
  (e = .returned (.bool true) ∧ ∃ (k : Nat) (bp : Nat), ps[k]? = some none ∧ (∀ i, i < k → ps[i]? ≠ some none) ∧ w.heap.size ≤ bp ∧ ArenaAt w' b gp gw (ps.set k (some ⟨bp, c, n, 0, 0⟩)) ws ∧ Kept (fun i => i = gp) w w')
theorem grow_any (b gp gw : Nat) (ps : List (Option PM)) (ws : List Int) (c : Int) (n : Nat) (w : World) (h : ArenaAt w b gp gw ps ws) (hn : Cls.csl c = (n : Int)) (h0 : 0 < n) :
    Calls Tryd.prog 9 #[.pointer (some ⟨b, 0, none⟩), .int .i64 c] w (Grew b gp gw ps ws c n w) := by
  have HN := Lib.hid hn
  have H := Lib.hid h
  have hl := h.hn
  clear h hn
  go_enter Tryd.func9, Tryd.ntmps9
  go_wp2_with fail
  refine (new_yes _ n _ HN.out h0).mono ?_
  rintro e w1 ⟨rfl, hp, hb⟩
  have HB := Lib.hid hb
  have HP := Lib.hid hp
  have H1 := Lib.hid (H.out.call hb)
  obtain ⟨c0, c1, f0, f1⟩ := H1.out.blk.two
  obtain ⟨bp, hbp⟩ : ∃ bp, w.heap.size = bp := ⟨_, rfl⟩
  have HQ := Lib.hid (show ∀ (i : Nat) (q : PM), ps[i]? = some (some q) → q.b ≠ w.heap.size from fun i q hq => by have := H.out.lt (.inr (.inr (.inr ⟨i, q, hq, rfl⟩))); omega)
  rw [hbp] at HP HQ ⊢
  have HBP := Lib.hid hbp
  clear hp hb hbp
  dsimp only
  go_wp2_with fail
  go_loopw [24] (fun i wr => ∃ j : Nat, j ≤ ps.length ∧ i = .int .i64 j ∧ (∀ i, i < j → ps[i]? ≠ some none) ∧ wr = w1) (fun i _ => ps.length - (intOf i).toNat)
  case atStart => exact ⟨0, Nat.zero_le _, rfl, fun i hi => by omega, rfl⟩
  case round =>
    obtain ⟨j, hj, rfl, hb, rfl⟩ := hrel
    have HS := Lib.hid hb
    clear hb
    by_cases hlt : j < ps.length
    · obtain ⟨p, hp⟩ : ∃ p, ps[j]? = some p := ⟨ps[j], List.getElem?_eq_getElem hlt⟩
      have hc := (H1.out.rowp.cell j).trans (pgs_get hp)
      have hf := H1.out.rowp.free j
      have h3 : (j : Int) < (ps.length : Int) := by omega
      have HJ := Lib.hid hp
      clear hp
      cases p with
      | none =>
        unfold ptr at hc
        go_wp2_with fail
        go_ret
        refine Or.inr ⟨rfl, j, bp, HJ.out, HS.out, by have := HBP.out; omega, ?_, (Kept.of_below HB.out (fun i => i = gp)).set (p := ⟨gp, j, none⟩) (.inl rfl) _⟩
        exact ArenaAt.grow H1.out HJ.out (p := ⟨bp, c, n, 0, 0⟩) ⟨HP.out, HN.out⟩ HQ.out
      | some p =>
        unfold ptr at hc
        go_wp2_with fail
        go_roundw
        case rel => exact ⟨j + 1, by omega, rfl, fun i hi => by
          rcases Nat.lt_succ_iff_lt_or_eq.1 hi with hi | rfl
          · exact HS.out i hi
          · rw [HJ.out]; simp, trivial⟩
        case measure => simp [intOf]; omega
    · obtain rfl : j = ps.length := by omega
      go_wp2_with fail
      go_ret
      exact Or.inl ⟨rfl, HS.out, HB.out⟩
end Go.Proofs.YtfgpadkoonogpaaDoor.Ar

namespace Go.Proofs.YtfgpadkoonogpaaDoor.Ar
open Go.RowKit Pg
set_option linter.unusedSimpArgs false
set_option linter.unusedVariables false

/-- Numbers from one on are 0. -/
def clr (ws : List Int) (o : Nat) : Nat → List Int
  | 0 => ws
  | n + 1 => clr (ws.set o 0) (o + 1) n
theorem clr_len : ∀ (n : Nat) (ws : List Int) (o : Nat), (clr ws o n).length = ws.length
  | 0, _, _ => rfl
  | n + 1, ws, o => by rw [clr, clr_len n, List.length_set]
theorem clr_get : ∀ (n : Nat) (ws : List Int) (o i : Nat), (clr ws o n)[i]? = if o ≤ i ∧ i < o + n ∧ i < ws.length then some 0 else ws[i]?
  | 0, ws, o, i => by rw [clr, if_neg (by omega)]
  | n + 1, ws, o, i => by
    rw [clr, clr_get n, List.length_set, List.getElem?_set]
    by_cases h : o = i
    · subst h
      rw [if_neg (by omega), if_pos rfl]
      by_cases h2 : o < ws.length
      · rw [if_pos h2, if_pos (by omega)]
      · rw [if_neg h2, if_neg (by omega), List.getElem?_eq_none (by omega)]
    · rw [if_neg h]
      by_cases h2 : o ≤ i ∧ i < o + (n + 1) ∧ i < ws.length
      · rw [if_pos h2, if_pos (by omega)]
      · rw [if_neg h2, if_neg (by omega)]
theorem blk_setCells (g : Nat) : ∀ (n o : Nat) (ws : List Int) (w : World), Blk w g (cells ws) 3 → Blk (w.setCells g o (List.replicate n (.int .i64 0))) g (cells (clr ws o n)) 3
  | 0, _, _, _, h => h
  | n + 1, o, ws, w, h => blk_setCells g n (o + 1) (ws.set o 0) _ ((h.set o (.int .i64 0)).of_eq (cells_set ws o 0))
theorem kept_setCells (g : Nat) {a : World} : ∀ (vs : List Value) (o : Nat) (w : World) {S : Nat → Prop}, S g → Kept S a w → Kept S a (w.setCells g o vs)
  | [], _, _, _, _, h => h
  | v :: r, o, w, S, hs, h => kept_setCells g r (o + 1) _ hs (h.set (p := ⟨g, o, none⟩) (.inl hs) v)
theorem ArenaAt.clear {w w' : World} {b gp gw : Nat} {ps : List (Option PM)} {ws ws' : List Int} (h : ArenaAt w b gp gw ps ws) (hb : Blk w' gw (cells ws') 3) (hl : ws'.length = ws.length) (hK : Kept (fun i => i = gw) w w') : ArenaAt w' b gp gw ps ws' :=
  ⟨by rw [hl]; exact hK.blk h.blk (blk_ne h.blk h.roww (by decide)), hK.blk h.rowp (blk_ne h.rowp h.roww (by decide)), hb, h.hn, by rw [hl]; exact h.hw,
    fun k p hk => ⟨(h.page k p hk).1.keep (hK.block _ (h.page k p hk).1.blk.lt (blk_ne (h.page k p hk).1.blk h.roww (by decide))), (h.page k p hk).2⟩, h.inj⟩
theorem zero_int (w : World) : (zeroValue 3).run Tryd.prog w = .ok (.int .i64 0) w := by kernel_rfl
theorem run_clear {w : World} {g o n c : Nat} {ws : List Int} (h : Blk w g (cells ws) 3) (hn : 0 < n) (hfit : o + n ≤ ws.length) (ty : TypeId) :
    (Builtin.clear_ #[27] ty #[.slice (some ⟨g, o, none⟩) n c]).run Tryd.prog w = .ok (.tuple #[]) (w.setCells g o (List.replicate n (.int .i64 0))) :=
  Lib.run_clear_slice w 27 3 ty (.int .i64 0) Tryd.underlying27 zero_int rfl rfl g o n c hn
    (fun j hj => by rw [h.cell, Array.getElem?_eq_getElem (by rw [cells_size]; omega)]; rfl) (fun j hj => h.free _)
/-- No slot of a class is free in the first pages. -/
def Full (ps : List (Option PM)) (c : Int) (k : Nat) : Prop := ∀ i, i < k → ∀ p, ps[i]? = some (some p) → p.c = c → ∀ s, s < p.n → p.U.testBit s = true
def Took (b gp gw : Nat) (ps : List (Option PM)) (ws : List Int) (c : Int) (w : World) (e : Ending) (w' : World) : Prop :=
  (e = .returned (.tuple #[.int .i64 0, .bool false]) ∧ Full ps c ps.length ∧ w = w') ∨
  (∃ (k : Nat) (p : PM) (s z : Nat), e = .returned (.tuple #[.int .i64 (1048576 + 32 * k + s * z : Nat), .bool true]) ∧ Full ps c k ∧ ps[k]? = some (some p) ∧ p.c = c ∧ Cls.csz c = z ∧ s < p.n ∧ p.U.testBit s = false ∧ (∀ i, i < s → p.U.testBit i = true) ∧
    ArenaAt w' b gp gw (ps.set k (some ⟨p.b, p.c, p.n, ins p.U s, del p.M s⟩)) (clr ws (32 * k + s * z) z) ∧ Kept (fun i => i = p.b ∨ i = gw) w w')
/-- The least number that is not in a word, if there is one below a bound. -/
theorem least (U n : Nat) : (∀ s, s < n → U.testBit s = true) ∨ ∃ s, s < n ∧ U.testBit s = false ∧ ∀ i, i < s → U.testBit i = true := by
  induction n with
  | zero => exact .inl fun s hs => by omega
  | succ n ih =>
    rcases ih with h | ⟨s, h1, h2, h3⟩
    · cases e : U.testBit n with
      | true =>
        exact .inl fun s hs => by
          rcases Nat.lt_succ_iff_lt_or_eq.1 hs with hs | rfl
          · exact h s hs
          · exact e
      | false => exact .inr ⟨n, by omega, e, h⟩
    · exact .inr ⟨s, by omega, h2, h3⟩
/-- A page's slots fit in it. -/
theorem fit {c : Int} {n s z : Nat} (hn : Cls.csl c = (n : Int)) (hz : Cls.csz c = (z : Int)) (hs : s < n) : s * z + z ≤ 32 ∧ 0 < z := by
  rcases Cls.csz_cases c with h | h | rfl | rfl | rfl | rfl | rfl | rfl | rfl | rfl
  · rw [Cls.csl_out (.inl h)] at hn; omega
  · rw [Cls.csl_out (.inr h)] at hn; omega
  all_goals
    simp [Cls.csl] at hn
    simp [Cls.csz] at hz
    have hzz : z = 1 ∨ z = 2 ∨ z = 3 ∨ z = 4 ∨ z = 6 ∨ z = 8 ∨ z = 12 ∨ z = 16 := by omega
    rcases hzz with rfl | rfl | rfl | rfl | rfl | rfl | rfl | rfl <;> omega
theorem take_slot {c : Int} {n : Nat} (hc : Cls.csl c = (n : Int)) (h0 : 0 < n) : ∃ z : Nat, Cls.csz c = (z : Int) := ⟨(Cls.csz c).toNat, by have := (Cls.csz_bd c).1; omega⟩
theorem step_clear {P : Program} (w w' : World) {ops : Array Oper} {o : Oper} {a : Act} {K : Act → World → Prop} {Q : Exit → Act → World → Prop} {E : Prop} (hgd : o.guard = none) (x : Operand) (t : TypeId) (v : Value)
    (ho : o.op = .call { callee := .builtin .clear, args := #[x], argTypes := #[t] }) (hx : a.eval x = v) (hrun : (Builtin.clear_ #[t] o.type #[v]).run P w = .ok (.tuple #[]) w')
    (h : K (a.put o.dst (.tuple #[])) w') :
    if Region.wanted o (yielded ops a.tmps) = true then Oper.wp P o a w K Q else E := by
  have hw : Region.wanted o (yielded ops a.tmps) = true := by simp [Region.wanted, hgd]
  rw [if_pos hw]
  unfold Oper.wp
  simp [execOp, ho, resolve, invoke, builtin, hx, hrun, Result.andThen]
  exact h
end Go.Proofs.YtfgpadkoonogpaaDoor.Ar

namespace Go.Proofs.YtfgpadkoonogpaaDoor.Ar
open Go.RowKit Pg
set_option linter.unusedSimpArgs false
set_option linter.unusedVariables false

theorem wrapI {x : Int} (h : 0 ≤ x ∧ x ≤ 4611686018427387904) : IntKind.i64.wrap x = x := by
  have e : IntKind.i64.wrap x = wrap64 x := by
    unfold wrap64
    exact IntKind.wrap_i64 x
  exact e.trans (wrap64_id (by omega))
theorem wrapJ {f z n : Nat} (hn : n ≤ 2048) (h : f + z ≤ n) : IntKind.i64.wrap ((f : Int) + (z : Int)) = (f : Int) + (z : Int) := wrapI (by omega)
theorem fits_words {n m j s z f : Nat} (hw : m = 32 * n) (hj : j < n) (hf : 32 * j + s * z = f) (h : s * z + z ≤ 32) : f + z ≤ m := by
  generalize s * z = q at *
  omega
theorem sub_base {A : Int} {j s z f : Nat} (hA : ((1048576 + 32 * j + s * z : Nat) : Int) = A) (hf : 32 * j + s * z = f) : A - 1048576 = (f : Int) := by
  generalize s * z = q at *
  omega
theorem sub_base2 {A : Int} {j s z f n : Nat} (hA : ((1048576 + 32 * j + s * z : Nat) : Int) = A) (hf : 32 * j + s * z = f) (hm : n ≤ 2048) (hfl : f + z ≤ n) : wrap64 (A - 1048576) = (f : Int) := by
  rw [sub_base hA hf]
  exact wrap64_id (by omega)
theorem take_facts {f z n : Nat} (hm : n ≤ 2048) (hfl : f + z ≤ n) (hz0 : 0 < z) :
    wrap64 (f : Int) = (f : Int) ∧ IntKind.i64.wrap ((f : Int) + (z : Int)) = (f : Int) + (z : Int) ∧ (¬ n = f) ∧ (¬ f = n) ∧ (f : Int) + (z : Int) ≤ (n : Int) ∧ (f : Int) ≤ (f : Int) + (z : Int) ∧ f + z - f = z ∧
      (0 : Int) ≤ (f : Int) ∧ (0 : Int) ≤ (f : Int) + (z : Int) ∧ (f : Int) ≤ (n : Int) ∧ ((f : Int) + (z : Int)).toNat = f + z :=
  ⟨wrap64_id (by omega), wrapJ hm hfl, by omega, by omega, by omega, by omega, by omega, by omega, by omega, by omega, by omega⟩
theorem cast3 (j s z : Nat) : (1048576 : Int) + (j : Int) * 32 + (s : Int) * (z : Int) = ((1048576 + 32 * j + s * z : Nat) : Int) := by
  have e : ((s * z : Nat) : Int) = (s : Int) * (z : Int) := Int.natCast_mul s z
  rw [← e]
  generalize s * z = m
  omega
set_option maxRecDepth 20000 in
set_option maxHeartbeats 400000 in
theorem take_any (b gp gw : Nat) (ps : List (Option PM)) (ws : List Int) (c : Int) (w : World) (h : ArenaAt w b gp gw ps ws) (hT : Tab w) (hfoot : ¬ Foot b gp gw ps 0) :
    Calls Tryd.prog 10 #[.pointer (some ⟨b, 0, none⟩), .int .i64 c] w (Took b gp gw ps ws c w) := by
  have hn := h.hn
  have HW := Lib.hid h.hw
  obtain ⟨c0, c1, f0, f1⟩ := h.blk.two
  have H := Lib.hid h
  have HT := Lib.hid hT
  have HF0 := Lib.hid hfoot
  clear h hT hfoot
  go_enter Tryd.func10, Tryd.ntmps10
  go_wp2_with fail
  go_loopw [19] (fun i wr => ∃ j : Nat, j ≤ ps.length ∧ i = .int .i64 j ∧ Full ps c j ∧ wr = w) (fun i _ => ps.length - (intOf i).toNat)
  case atStart => exact ⟨0, Nat.zero_le _, rfl, fun i hi => by omega, rfl⟩
  case round =>
    obtain ⟨j, hj, rfl, hfull, rfl⟩ := hrel
    have HS := Lib.hid hfull
    clear hfull
    by_cases hlt : j < ps.length
    · obtain ⟨p, hp⟩ : ∃ p, ps[j]? = some p := ⟨ps[j], List.getElem?_eq_getElem hlt⟩
      have hc := (H.out.rowp.cell j).trans (pgs_get hp)
      have h3 : (j : Int) < (ps.length : Int) := by omega
      have HJ := Lib.hid hp
      clear hp
      have HNext := Lib.hid (fun (hh : ∀ q, p = some q → q.c = c → ∀ s, s < q.n → q.U.testBit s = true) => (show Full ps c (j + 1) from fun i hi q hq => by
        rcases Nat.lt_succ_iff_lt_or_eq.1 hi with hi | rfl
        · exact HS.out i hi q hq
        · exact hh q (Option.some.inj (HJ.out.symm.trans hq))))
      rcases p with _ | ⟨pb, pc, pn, pU, pM⟩
      · unfold ptr at hc
        have HN := Lib.hid (HNext.out fun q e => by cases e)
        clear HNext
        by_cases hcc : c = -1
        · subst hcc
          go_wp2_with fail
          refine (class_nil _).mono ?_
          rintro e w1 ⟨rfl, rfl⟩
          dsimp only
          go_wp2_with fail
          go_roundw
          case rel => exact ⟨j + 1, by omega, rfl, HN.out, trivial⟩
          case measure => simp [intOf]; omega
        · have hne : ((-1 : Int) != c) = true := by simp; omega
          go_wp2_with fail
          refine (class_nil _).mono ?_
          rintro e w1 ⟨rfl, rfl⟩
          dsimp only
          go_wp2_with fail
          go_roundw
          case rel => exact ⟨j + 1, by omega, rfl, HN.out, trivial⟩
          case measure => simp [intOf]; omega
      · have HA := Lib.hid (H.out.page j _ HJ.out)
        have HP := Lib.hid HA.out.1
        unfold ptr at hc
        dsimp only at hc
        by_cases hcc : pc = c
        · subst hcc
          rcases least pU pn with hfull | ⟨s, hs, hU, hall⟩
          · have HN := Lib.hid (HNext.out fun q e _ => by injection e with e; subst e; exact hfull)
            have HFU := Lib.hid hfull
            clear HNext hfull
            go_wp2_with fail
            refine (class_any _ _ _ _ _ _ HP.out).mono ?_
            rintro e w1 ⟨rfl, rfl⟩
            dsimp only
            go_wp2_with fail
            refine (take_no _ _ _ _ _ _ HP.out HT.out HFU.out).mono ?_
            rintro e w1 ⟨rfl, rfl⟩
            dsimp only
            go_wp2_with fail
            go_roundw
            case rel => exact ⟨j + 1, by omega, rfl, HN.out, trivial⟩
            case measure => simp [intOf]; omega
          · have hpn := HA.out.1.n0
            obtain ⟨z, hz⟩ : ∃ z : Nat, Cls.csz pc = (z : Int) := take_slot HA.out.2 hpn
            obtain ⟨hfit, hz0⟩ := fit HA.out.2 hz hs
            have HZ := Lib.hid hz
            have HU := Lib.hid hU
            have HL := Lib.hid hall
            have hz16 : z ≤ 16 := by have := (Cls.csz_bd pc).2; omega
            clear HNext hU hall hz
            have hs32 : pn ≤ 32 := HA.out.1.hn
            go_wp2_with fail
            refine (class_any _ _ _ _ _ _ HP.out).mono ?_
            rintro e w1 ⟨rfl, rfl⟩
            dsimp only
            go_wp2_with fail
            refine (take_yes _ _ _ _ _ s _ HP.out HT.out hs HU.out HL.out).mono ?_
            rintro e w1 ⟨rfl, hp1, hk1⟩
            have HK1 := Lib.hid hk1
            have H1 := Lib.hid (H.out.turn HJ.out hp1 hk1)
            clear hp1 hk1
            dsimp only
            go_wp2_with fail
            refine (base_any _ _ _ _ _ _ _ _ H1.out).mono ?_
            have hlen : (ps.set j (some ⟨pb, pc, pn, ins pU s, del pM s⟩)).length = ps.length := List.length_set
            obtain ⟨f, hf⟩ : ∃ f : Nat, 32 * j + s * z = f := ⟨_, rfl⟩
            obtain ⟨A, hA⟩ : ∃ A : Int, ((1048576 + 32 * j + s * z : Nat) : Int) = A := ⟨_, rfl⟩
            have HA' := Lib.hid hA
            have HB := Lib.hid (show base (ps.set j (some ⟨pb, pc, pn, ins pU s, del pM s⟩)) j s = A by
              rw [← HA'.out]
              rw [base_some (p := ⟨pb, pc, pn, ins pU s, del pM s⟩) (by rw [get_nat, List.getElem?_set_self hlt]; rfl)]
              rw [if_pos ⟨Int.natCast_nonneg _, Int.ofNat_lt.2 hs⟩]
              dsimp only
              rw [HZ.out]
              exact cast3 j s z)
            have hfl : f + z ≤ ws.length := fits_words HW.out hlt hf hfit
            have hm : ws.length ≤ 2048 := by have := HW.out; omega
            have hsub := sub_base hA hf
            have hsub2 := sub_base2 hA hf hm hfl
            clear hA
            rw [HB.out]
            rintro e w2 ⟨rfl, d, rfl⟩
            have H2 := Lib.hid (H1.out.drewN d)
            have HK2 := Lib.hid (HK1.out.drewN d)
            generalize hw3 : w1.drewN d = w3 at *
            clear hw3
            clear c0 c1 f0 f1
            obtain ⟨c0, c1, f0, f1⟩ := H2.out.blk.two
            rw [hlen] at c0
            obtain ⟨hwf, n9, n4, n5, n6, n7, n8, m1, m2, m3, hadd⟩ := take_facts hm hfl hz0
            have HFL := Lib.hid hfl
            have HZ0 := Lib.hid hz0
            have HF' := Lib.hid hf
            have HD := Lib.hid (show ∀ dd, Took b gp gw ps ws pc wr (.returned (.tuple #[.int .i64 A, .bool true])) ((w3.drewN dd).setCells gw f (List.replicate z (.int .i64 0))) from fun dd => by
              refine Or.inr ⟨j, ⟨pb, pc, pn, pU, pM⟩, s, z, by rw [HA'.out], HS.out, HJ.out, rfl, HZ.out, hs, HU.out, HL.out, ?_, ?_⟩
              · rw [HF'.out]
                exact (H2.out.drewN dd).clear (blk_setCells gw z f ws _ (H2.out.drewN dd).roww) (clr_len _ _ _) (kept_setCells gw _ f _ rfl (Kept.refl _ _))
              · exact kept_setCells gw _ f _ (.inr rfl) ((HK2.out.wide fun i _ e => .inl e).drewN dd))
            clear hf hfl hz0 hfit hs32 hpn hz16 hs hm hj hlt h3 hc hlen
            dsimp only
            go_wp2_with (first | simp only [hsub2] | simp only [hsub])
            go_region_law (first
              | (refine step_clear _ _ rfl (.tmp 53) 27 (.slice (some ⟨gw, f, none⟩) z (ws.length - f)) rfl (by simp [Act.eval, Act.put]) (run_clear (by exact H2.out.roww) HZ0.out HFL.out _) ?_)
              | (go_simp; go_at_call 46; refine (Cls.size_any _ _).mono ?_; rw [HZ.out]; rintro e w4 ⟨rfl, rfl⟩; dsimp only))
            all_goals
              go_wp2_with fail
              go_ret2
              exact HD.out _
        · have hne : (pc != c) = true := by simp; omega
          have HN := Lib.hid (HNext.out fun q e e2 => by injection e with e; subst e; exact absurd e2 hcc)
          clear HNext
          go_wp2_with fail
          refine (class_any _ _ _ _ _ _ HP.out).mono ?_
          rintro e w1 ⟨rfl, rfl⟩
          dsimp only
          go_wp2_with fail
          go_roundw
          case rel => exact ⟨j + 1, by omega, rfl, HN.out, trivial⟩
          case measure => simp [intOf]; omega
    · obtain rfl : j = ps.length := by omega
      go_wp2_with fail
      go_ret2
      exact Or.inl ⟨rfl, HS.out, rfl⟩
end Go.Proofs.YtfgpadkoonogpaaDoor.Ar

namespace Go.Proofs.YtfgpadkoonogpaaDoor.Ar
open Go.RowKit Pg
set_option linter.unusedSimpArgs false
set_option linter.unusedVariables false

/-- Where a page's used slots begin. -/
def begins (ps : List (Option PM)) (j : Nat) : List Int :=
  match get ps (j : Int) with
  | none => []
  | some p => (Bit.bl p.U).map fun (s : Nat) => base ps j (s : Int)
/-- Where the used slots of the first pages begin. -/
def allOf (ps : List (Option PM)) : Nat → List Int
  | 0 => []
  | j + 1 => allOf ps j ++ begins ps j
def ints' (l : List Int) : List Value := l.map (Value.int .i64)
def ListsI (l : List Int) (w : World) (e : Ending) (w' : World) : Prop :=
  ∃ a c, e = .returned (.slice a l.length c) ∧ w'.ownsRow w.heap.size 3 1 (.slice a l.length c) l.length (ints' l) ∧ Below w.heap.size w w'
theorem all_nil (w : World) : Calls Tryd.prog 15 #[.pointer none] w fun e w' => e = .returned (.slice none 0 0) ∧ w = w' := by
  go_enter Tryd.func15, Tryd.ntmps15
  go_wp2_with fail
  go_ret
  exact ⟨rfl, rfl⟩
theorem begins_len (ps : List (Option PM)) (j : Nat) : (begins ps j).length ≤ 32 := by
  unfold begins
  split
  · simp
  · rename_i p _
    rw [List.length_map]
    exact Bit.sl_len 32 p.U.testBit
theorem allOf_len (ps : List (Option PM)) : ∀ j, (allOf ps j).length ≤ 32 * j
  | 0 => by simp [allOf]
  | j + 1 => by
    have h1 := allOf_len ps j
    have h2 := begins_len ps j
    rw [allOf, List.length_append]
    omega
end Go.Proofs.YtfgpadkoonogpaaDoor.Ar

namespace Go.Proofs.YtfgpadkoonogpaaDoor.Ar
open Go.RowKit Pg
set_option linter.unusedSimpArgs false
set_option linter.unusedVariables false

theorem take_one {l : List Int} {m : Nat} {x : Int} (h : l[m]? = some x) : l.take (m + 1) = l.take m ++ [x] := by rw [List.take_add_one, h]; rfl
def lst : Option PM → List Nat
  | none => []
  | some p => Bit.bl p.U
theorem page_all {p : Option PM} {w : World} (h : ∀ q, p = some q → PageAt w q.b q.c q.n q.U q.M) (hT : Tab w) : Calls Tryd.prog 50 #[ptr p] w (Lists (lst p) w) := by
  rcases p with _ | p
  · refine (Pg.all_nil _).mono ?_
    rintro e w1 ⟨rfl, rfl⟩
    exact ⟨none, 0, rfl, World.ownsRow_nil _ _ _ _, Below.refl _ _⟩
  · exact Pg.all_any _ _ _ _ _ _ (h p rfl) hT
theorem lst_len (p : Option PM) : (lst p).length ≤ 32 := by
  cases p with
  | none => simp [lst]
  | some p => exact Bit.sl_len 32 p.U.testBit
theorem begins_lst {ps : List (Option PM)} {j : Nat} {p : Option PM} (h : ps[j]? = some p) : begins ps j = (lst p).map fun (s : Nat) => base ps j (s : Int) := by
  unfold begins
  rw [get_nat, h]
  cases p <;> rfl
set_option maxHeartbeats 1000000 in
theorem all_any (b gp gw : Nat) (ps : List (Option PM)) (ws : List Int) (w : World) (h : ArenaAt w b gp gw ps ws) (hT : Tab w) :
    Calls Tryd.prog 15 #[.pointer (some ⟨b, 0, none⟩)] w (ListsI (allOf ps ps.length) w) := by
  obtain ⟨i0, hi0, hz0, hz1, hz2⟩ := info_parts infoI
  have HI := Lib.hid (⟨hi0, hz0, hz1, hz2⟩ : Tryd.prog.info? 3 = some i0 ∧ i0.zero = some (.int .i64 0) ∧ i0.size = 1 ∧ i0.bytes = 8)
  have HT := Lib.hid hT
  have H := Lib.hid h
  have hn := h.hn
  obtain ⟨c0, c1, f0, f1⟩ := h.blk.two
  clear hi0 hz0 hz1 hz2 hT h
  go_enter Tryd.func15, Tryd.ntmps15
  go_wp2_with fail
  clear c0 c1 f0 f1
  go_loopw [3, 15] (fun v i wr => ∃ (j : Nat) (a : Option Addr) (c : Nat), j ≤ ps.length ∧ i = .int .i64 j ∧ v = .slice a (allOf ps j).length c ∧ wr.ownsRow w.heap.size 3 1 (.slice a (allOf ps j).length c) (allOf ps j).length (ints' (allOf ps j)) ∧ Below w.heap.size w wr) (fun _ i _ => ps.length - (intOf i).toNat)
  case atStart => exact ⟨0, none, 0, Nat.zero_le _, rfl, rfl, World.ownsRow_nil _ _ _ _, Below.refl _ _⟩
  case round =>
    obtain ⟨j, a, c, hj, rfl, rfl, ho, hb⟩ := hrel
    have HO := Lib.hid ho
    have HB := Lib.hid hb
    have HL := Lib.hid (allOf_len ps j)
    clear ho hb
    by_cases hlt : j < ps.length
    · obtain ⟨p, hp⟩ : ∃ p, ps[j]? = some p := ⟨ps[j], List.getElem?_eq_getElem hlt⟩
      have H1 := Lib.hid (H.out.call HB.out)
      have hc := (H1.out.rowp.cell j).trans (pgs_get hp)
      have h3 : (j : Int) < (ps.length : Int) := by omega
      have HJ := Lib.hid hp
      clear hp
      have HP := Lib.hid (page_all (p := p) (w := wr) (fun q e => (H1.out.page j q (by rw [HJ.out, e])).1) (HT.out.call HB.out))
      have HLL := Lib.hid (lst_len p)
      have HBL := Lib.hid (begins_lst HJ.out)
      obtain ⟨wo, rfl⟩ : ∃ wo : World, wo = wr := ⟨_, rfl⟩
      have hv : ∃ a, ptr p = .pointer a := by cases p <;> exact ⟨_, rfl⟩
      obtain ⟨pa, hpa⟩ := hv
      rw [hpa] at hc HP
      generalize hLs : lst p = L at *
      clear hpa hLs
      go_wp2_with fail
      refine HP.out.mono ?_
      rintro e w1 ⟨aL, cL, rfl, hoL, hbL⟩
      have HOL := Lib.hid hoL
      have HO1 := Lib.hid (own_block HO.out fun k hk => hbL.block k (HO.out.lt k hk).2)
      have HB1 := Lib.hid (below_call HB.out HB.out.size hbL)
      have HV1 := Lib.hid (show ∀ k, (Value.slice a (allOf ps j).length c).ownBlock = some k → ∀ g, (Value.slice aL L.length cL).ownBlock = some g → k ≠ g from fun k hk g hg e => by
        have h1 := (HO.out.lt k hk).2
        have h2 := (hoL.lt g hg).1
        omega)
      have hs1 := hbL.size
      clear hoL hbL
      dsimp only
      go_wp2_with fail
      go_loopw [3, 23] (fun v i wr => ∃ (m : Nat) (a' : Option Addr) (c' : Nat), m ≤ L.length ∧ i = .int .i64 m ∧ v = .slice a' ((allOf ps j).length + m) c' ∧
        wr.ownsRow w.heap.size 3 1 (.slice a' ((allOf ps j).length + m) c') ((allOf ps j).length + m) (ints' (allOf ps j ++ (begins ps j).take m)) ∧ Below w.heap.size w wr ∧
        wr.ownsRow wo.heap.size 3 1 (.slice aL L.length cL) L.length (nats L) ∧ (∀ k, (Value.slice a' ((allOf ps j).length + m) c').ownBlock = some k → ∀ g, (Value.slice aL L.length cL).ownBlock = some g → k ≠ g)) (fun _ i _ => L.length - (intOf i).toNat)
      case atStart => exact ⟨0, a, c, Nat.zero_le _, rfl, rfl, by simpa using HO1.out, HB1.out, HOL.out, by simpa using HV1.out⟩
      case round =>
        obtain ⟨m, a', c', hm, rfl, rfl, ho2, hb2, hol2, hv2⟩ := hrel
        have HO2 := Lib.hid ho2
        have HB2 := Lib.hid hb2
        have HOL2 := Lib.hid hol2
        have HV2 := Lib.hid hv2
        clear ho2 hb2 hol2 hv2
        by_cases hlm : m < L.length
        · obtain ⟨s, hs⟩ : ∃ s, L[m]? = some s := ⟨L[m], List.getElem?_eq_getElem hlm⟩
          obtain ⟨g, rfl⟩ : ∃ g, aL = some ⟨g, 0, none⟩ := by
            rcases HOL2.out.2 with ⟨_, h⟩ | ⟨g, cap, _, h, _⟩
            · exfalso; omega
            · injection h with h3; exact ⟨g, h3⟩
          have hcell := HOL2.out.cells (g := g) rfl m (.int .i64 (s : Int)) (by simp [nats, ints, hs])
          rw [add_form] at hcell
          have hcell : wr.cell? ⟨g, m, none⟩ = some (.int .i64 (s : Int)) := by simpa using hcell
          have hl3 : (m : Int) < (L.length : Int) := by omega
          have H2 := Lib.hid (H.out.call HB2.out)
          have HX := Lib.hid (show (begins ps j).take (m + 1) = (begins ps j).take m ++ [base ps j (s : Int)] from take_one (by rw [HBL.out]; simp [hs]))
          have hsz := HB2.out.size
          have hlen := HL.out
          have hlen2 := HLL.out
          have h32 : (allOf ps j).length ≤ 2048 := by omega
          have hm32 : m ≤ 32 := by omega
          go_wp2_with fail
          refine (base_any _ _ _ _ _ _ _ _ H2.out).mono ?_
          rintro e w3 ⟨rfl, d, rfl⟩
          dsimp only
          have HO3 := Lib.hid (own_block HO2.out fun k hk => (rfl : (wr.drewN d).heap[k]? = wr.heap[k]?))
          have HOL3 := Lib.hid (own_block HOL2.out fun k hk => (rfl : (wr.drewN d).heap[k]? = wr.heap[k]?))
          have HB3 := Lib.hid (below_drewN HB2.out d)
          generalize wr.drewN d = w3 at *
          generalize base ps j (s : Int) = x at *
          have hsz3 := HB3.out.size
          clear hcell hsz
          go_wp2_with (first
            | (at_builtin; go_loud (refine wpList_app _ rfl _ _ 27 rfl w.heap.size 3 i0 (.int .i64 0) 1 8 Tryd.underlying27 HI.out.1 HI.out.2.1 HI.out.2.2.1 HI.out.2.2.2 rfl (by decide) _ _ _ rfl (HO3.out.alloc _) (w3.heap.size + 1) _ 1 1 [.int .i64 x] rfl (Blk.reads (Blk.new w3 _ _) (by simp) rfl rfl (by decide)) ?c1 ?c2 ?c3 ?c4 ?_))
            | fail)
          case c1 => intro u hu; simp at hu; subst hu; rfl
          case c2 => unfold maxLen; omega
          case c3 => omega
          case c4 => (try simp only [World.size_alloc]); omega
          intro a4 c4 w4 ho4 hg4 hat4
          have HO4 := Lib.hid (show w4.ownsRow w.heap.size 3 1 (.slice a4 ((allOf ps j).length + (m + 1)) c4) ((allOf ps j).length + (m + 1)) (ints' (allOf ps j ++ (begins ps j).take (m + 1))) from by
            rw [HX.out]; simpa [ints', Nat.add_assoc] using ho4)
          have HB4 := Lib.hid (show Below w.heap.size w w4 from (fresh_alloc HB3.out _).grown hg4 (by simp; omega) (fun k hk => (HO3.out.lt k hk).1))
          have HOL4 := Lib.hid (own_block (HOL3.out.alloc (.cells #[.int .i64 x] 3)) fun k hk => hg4.block k (by have := (HOL3.out.lt k hk).2; simp; omega) (fun e => HV2.out k e.symm k hk rfl))
          have HV4 := Lib.hid (show ∀ k, (Value.slice a4 ((allOf ps j).length + (m + 1)) c4).ownBlock = some k → ∀ g', (Value.slice (some ⟨g, 0, none⟩) L.length cL).ownBlock = some g' → k ≠ g' from fun k hk g' hg' => by
            rw [Nat.add_assoc] at hat4
            rcases hat4 with e | e
            · exact HV2.out k (e.symm.trans hk) g' hg'
            · have h1 := (HOL3.out.lt g' hg').2
              have h2 : k = _ := Option.some.inj (hk.symm.trans e)
              omega)
          clear ho4 hg4 hat4
          go_wp2_with fail
          go_roundw
          case rel => exact ⟨m + 1, a4, c4, by omega, rfl, by rw [Nat.add_assoc], HO4.out, HB4.out, HOL4.out, HV4.out⟩
          case measure => simp [intOf]; omega
        · obtain rfl : m = L.length := by omega
          have HEnd := Lib.hid (show (begins ps j).take L.length = begins ps j by rw [List.take_of_length_le]; rw [HBL.out, List.length_map]; omega)
          have HLen := Lib.hid (show (begins ps j).length = L.length by rw [HBL.out, List.length_map])
          go_wp2_with fail
          go_roundw
          case rel => exact ⟨j + 1, a', c', by omega, rfl, by rw [allOf, List.length_append, HLen.out], by
            have := HO2.out
            rw [HEnd.out] at this
            rw [allOf, List.length_append, HLen.out]
            exact this, HB2.out⟩
          case measure => simp [intOf]; omega
    · obtain rfl : j = ps.length := by omega
      go_wp2_with fail
      go_ret
      exact ⟨a, c, rfl, HO.out, HB.out⟩
end Go.Proofs.YtfgpadkoonogpaaDoor.Ar

namespace Go.Proofs.YtfgpadkoonogpaaDoor.Ar
open Go.RowKit Pg
set_option linter.unusedSimpArgs false
set_option linter.unusedVariables false

structure AW (w wr : World) (b gp gw : Nat) (ps : List (Option PM)) (ws : List Int) : Prop where
  ar : ArenaAt wr b gp gw ps ws
  new : ∀ i, Foot b gp gw ps i → w.heap.size ≤ i
  bel : Below w.heap.size w wr
  tab : Tab wr
namespace AW
variable {w wr w' : World} {b gp gw : Nat} {ps ps' : List (Option PM)} {ws ws' : List Int}
theorem call (h : AW w wr b gp gw ps ws) (hb : Below wr.heap.size wr w') : AW w w' b gp gw ps ws := ⟨h.ar.call hb, h.new, fresh_call h.bel hb, h.tab.call hb⟩
theorem drewN (h : AW w wr b gp gw ps ws) (k : Nat) : AW w (wr.drewN k) b gp gw ps ws := h.call (below_drewN (Below.refl _ _) k)
theorem foot0 (h : AW w wr b gp gw ps ws) (h0 : 0 < w.heap.size) : ¬ Foot b gp gw ps 0 := fun e => by have := h.new _ e; omega
theorem step {S : Nat → Prop} (h : AW w wr b gp gw ps ws) (h0 : 0 < w.heap.size) (ha : ArenaAt w' b gp gw ps' ws') (hk : Kept S wr w') (hS : ∀ i, S i → w.heap.size ≤ i) (hf : ∀ i, Foot b gp gw ps' i → w.heap.size ≤ i) : AW w w' b gp gw ps' ws' :=
  ⟨ha, hf, h.bel.trans (hk.below h.bel.size (fun i hi e => by have := hS i e; omega)), h.tab.kept hk (fun e => by have := hS _ e; omega)⟩
/-- A page put in: its block is new, or was there. -/
theorem foot_set (h : AW w wr b gp gw ps ws) {k : Nat} {p : Option PM} (hp : ∀ q, p = some q → w.heap.size ≤ q.b) : ∀ i, Foot b gp gw (ps.set k p) i → w.heap.size ≤ i := by
  rintro i (e | e | e | ⟨j, q, hq, e⟩)
  · exact h.new i (.inl e)
  · exact h.new i (.inr (.inl e))
  · exact h.new i (.inr (.inr (.inl e)))
  · by_cases hkj : k = j
    · subst hkj
      rw [List.getElem?_set] at hq
      simp at hq
      exact e ▸ hp q hq.2
    · rw [List.getElem?_set_ne hkj] at hq
      exact h.new i (.inr (.inr (.inr ⟨j, q, hq, e⟩)))
theorem made {n : Nat} {e : Ending} (hT : Tab w) (h : Made w n e w') : ∃ b gp gw, e = .returned (.pointer (some ⟨b, 0, none⟩)) ∧ AW w w' b gp gw (List.replicate n none) (List.replicate (32 * n) 0) := by
  obtain ⟨b, gp, gw, rfl, ha, h1, h2, h3, hb⟩ := h
  refine ⟨b, gp, gw, rfl, ha, ?_, hb, hT.call hb⟩
  rintro i (e | e | e | ⟨j, q, hq, e⟩)
  · omega
  · omega
  · omega
  · rw [List.getElem?_replicate] at hq
    split at hq <;> simp at hq
end AW
end Go.Proofs.YtfgpadkoonogpaaDoor.Ar

namespace Go.Proofs.YtfgpadkoonogpaaDoor.Ar
open Go.RowKit Pg
set_option linter.unusedSimpArgs false
set_option linter.unusedVariables false

theorem took_is {b gp gw : Nat} {ps : List (Option PM)} {ws : List Int} {c : Int} {w w' : World} {e : Ending} (h : Took b gp gw ps ws c w e w') {k s z : Nat} {p : PM}
    (hk : ps[k]? = some (some p)) (hc : p.c = c) (hF : Full ps c k) (hs : s < p.n) (hU : p.U.testBit s = false) (hall : ∀ i, i < s → p.U.testBit i = true) (hz : Cls.csz c = (z : Int)) :
    e = .returned (.tuple #[.int .i64 (1048576 + 32 * k + s * z : Nat), .bool true]) ∧ ArenaAt w' b gp gw (ps.set k (some ⟨p.b, p.c, p.n, ins p.U s, del p.M s⟩)) (clr ws (32 * k + s * z) z) ∧ Kept (fun i => i = p.b ∨ i = gw) w w' := by
  rcases h with ⟨_, h1, _⟩ | ⟨k', p', s', z', he, h1, h2, h3, h4, h5, h6, h7, h8, h9⟩
  · have := h1 k (List.getElem?_eq_some_iff.1 hk).1 p hk hc s hs
    rw [hU] at this; cases this
  · have hkk : k = k' := by
      rcases Nat.lt_trichotomy k k' with hlt | rfl | hlt
      · have := h1 k hlt p hk hc s hs
        rw [hU] at this; cases this
      · rfl
      · have := hF k' hlt p' h2 h3 s' h5
        rw [h6] at this; cases this
    subst hkk
    have hpp : p = p' := Option.some.inj (Option.some.inj (hk.symm.trans h2))
    subst hpp
    have hss : s = s' := by
      rcases Nat.lt_trichotomy s s' with hlt | rfl | hlt
      · have := h7 s hlt
        rw [hU] at this; cases this
      · rfl
      · have := hall s' hlt
        rw [h6] at this; cases this
    subst hss
    have hzz : z = z' := by omega
    subst hzz
    exact ⟨he, h8, h9⟩
theorem took_no {b gp gw : Nat} {ps : List (Option PM)} {ws : List Int} {c : Int} {w w' : World} {e : Ending} (h : Took b gp gw ps ws c w e w') (hF : Full ps c ps.length) : e = .returned (.tuple #[.int .i64 0, .bool false]) ∧ w = w' := by
  rcases h with ⟨h0, h1, h2⟩ | ⟨k', p', s', z', he, h1, h2, h3, h4, h5, h6, h7, h8, h9⟩
  · exact ⟨h0, h2⟩
  · have := hF k' (List.getElem?_eq_some_iff.1 h2).1 p' h2 h3 s' h5
    rw [h6] at this; cases this
theorem grew_is {b gp gw : Nat} {ps : List (Option PM)} {ws : List Int} {c : Int} {n : Nat} {w w' : World} {e : Ending} (h : Grew b gp gw ps ws c n w e w') {k : Nat} (hk : ps[k]? = some none) (hF : ∀ i : Nat, i < k → ps[i]? ≠ some none) :
    e = .returned (.bool true) ∧ ∃ bp, w.heap.size ≤ bp ∧ ArenaAt w' b gp gw (ps.set k (some ⟨bp, c, n, 0, 0⟩)) ws ∧ Kept (fun i => i = gp) w w' := by
  rcases h with ⟨_, h1, _⟩ | ⟨he, k', bp, h1, h2, h3, h4, h5⟩
  · exact absurd hk (h1 k (List.getElem?_eq_some_iff.1 hk).1)
  · have hkk : k = k' := by
      rcases Nat.lt_trichotomy k k' with hlt | rfl | hlt
      · exact absurd hk (h2 k hlt)
      · rfl
      · exact absurd h1 (hF k' hlt)
    subst hkk
    exact ⟨he, bp, h3, h4, h5⟩
theorem grew_no {b gp gw : Nat} {ps : List (Option PM)} {ws : List Int} {c : Int} {n : Nat} {w w' : World} {e : Ending} (h : Grew b gp gw ps ws c n w e w') (hF : ∀ i : Nat, ps[i]? ≠ some none) : e = .returned (.bool false) ∧ Below w.heap.size w w' := by
  rcases h with ⟨h0, _, h2⟩ | ⟨he, k', bp, h1, h2, h3, h4, h5⟩
  · exact ⟨h0, h2⟩
  · exact absurd h1 (hF k')
end Go.Proofs.YtfgpadkoonogpaaDoor.Ar
