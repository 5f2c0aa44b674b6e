/- Package arena: the contracts of Find, Size, Load, Store. -/
import Derived.Test.YtoajbjeiplolnaaDoorRAr
namespace Go.Proofs.YtoajbjeiplolnaaDoorR.Ar
open Go.RowKit Pg
set_option linter.unusedSimpArgs false
set_option linter.unusedVariables false

theorem blk_ne {w : World} {b b' : Nat} {cs cs' : Array Value} {T T' : TypeId} (h : Blk w b cs T) (h' : Blk w b' cs' T') (hT : T ≠ T') : b ≠ b' := by
  rintro rfl
  have e : some (Obj.cells cs T (0, 0)) = some (Obj.cells cs' T' (0, 0)) := h.symm.trans h'
  injection e with e
  injection e with e1 e2
  exact hT e2
/-- What a slot found means. -/
theorem slot_some {w : World} {b gp gw : Nat} {ps : List (Option PM)} {ws : List Int} (h : ArenaAt w b gp gw ps ws) {addr : Int} {k s : Nat} {p : PM} (e : slot ps addr = some (k, p, s)) :
    ps[k]? = some (some p) ∧ p.U.testBit s = true ∧ s < p.n ∧ 1048576 ≤ addr ∧ (addr - 1048576) / 32 = k ∧ (addr - 1048576) % 32 / Cls.csz p.c = s ∧ 0 < Cls.csz p.c ∧ get ps (k : Int) = some p ∧ base ps k s = 1048576 + k * 32 + s * Cls.csz p.c := by
  unfold slot at e
  split at e
  · cases e
  rename_i h1
  rcases hg : get ps ((addr - 1048576) / 32) with _ | q
  · rw [hg] at e; cases e
  rw [hg] at e
  dsimp only at e
  split at e
  · rename_i h2
    have e := Option.some.inj e
    injection e with e1 e2
    injection e2 with e2 e3
    subst e2
    obtain ⟨j, hj, hjq⟩ := get_some hg
    have hk : k = j := by omega
    subst hk
    have hz := Cls.csz_bd q.c
    have hq0 : 0 ≤ (addr - 1048576) % 32 / Cls.csz q.c := Int.ediv_nonneg (by omega) hz.1
    have hs : (addr - 1048576) % 32 / Cls.csz q.c = (s : Int) := by omega
    have hb : q.U.testBit s = true := by
      have := h2.2
      rw [hs, at_nat] at this
      exact this
    have hp := h.page _ q hjq
    have hsn := hp.1.inU s hb
    have hz0 : 0 < Cls.csz q.c := by
      rcases Int.lt_or_eq_of_le hz.1 with h | h
      · exact h
      · have := h2.1
        rw [← h, Int.mul_zero] at this
        omega
    have hgk : get ps (k : Int) = some q := by rw [← hj]; exact hg
    exact ⟨hjq, hb, hsn, by omega, by omega, hs, hz0, hgk, by rw [base_some hgk, if_pos (by omega)]⟩
  · cases e
theorem slot_word {w : World} {b gp gw : Nat} {ps : List (Option PM)} {ws : List Int} (h : ArenaAt w b gp gw ps ws) {addr : Int} {k s : Nat} {p : PM} (e : slot ps addr = some (k, p, s)) :
    ∃ i : Nat, addr - 1048576 = i ∧ i < ws.length := by
  obtain ⟨h1, -, -, h2, h3, -⟩ := slot_some h e
  have := (List.getElem?_eq_some_iff.1 h1).1
  have := h.hw
  exact ⟨(addr - 1048576).toNat, by omega, by omega⟩
def fbase (ps : List (Option PM)) (addr : Int) : Int := match slot ps addr with | none => 0 | some (k, _, s) => base ps k s
theorem placed_none {e : Ending} (h : Placed none e) : ∃ x y, e = .returned (.tuple #[.int .i64 x, .int .i64 y, .bool false]) := h
theorem placed_some {e : Ending} {k s : Nat} {p : PM} (h : Placed (some (k, p, s)) e) : e = .returned (.tuple #[.int .i64 k, .int .i64 s, .bool true]) := h
theorem find_any (b gp gw : Nat) (ps : List (Option PM)) (ws : List Int) (addr : Int) (w : World) (h : ArenaAt w b gp gw ps ws) (ha : addr ≤ 9223372036854775807) :
    Calls Tryd.prog 29 #[.pointer (some ⟨b, 0, none⟩), .int .i64 addr] w fun e w' => e = .returned (.tuple #[.int .i64 (fbase ps addr), .bool (slot ps addr).isSome]) ∧ ∃ n, w' = w.drewN n := by
  have H := Lib.hid h
  have HP := Lib.hid (place_any b gp gw ps ws addr w h ha)
  unfold fbase
  rcases hs : slot ps addr with _ | ⟨k, p, s⟩
  · rw [hs] at HP
    clear h hs
    go_enter Tryd.func29, Tryd.ntmps29
    go_wp2_with fail
    refine HP.out.mono ?_
    rintro e w1 ⟨he, rfl⟩
    obtain ⟨x, y, rfl⟩ := placed_none he
    dsimp only
    go_wp2_with fail
    go_ret2
    exact ⟨rfl, 0, rfl⟩
  · rw [hs] at HP
    clear h hs
    go_enter Tryd.func29, Tryd.ntmps29
    go_wp2_with fail
    refine HP.out.mono ?_
    rintro e w1 ⟨he, rfl⟩
    obtain rfl := placed_some he
    dsimp only
    go_wp2_with fail
    refine (base_any _ _ _ _ _ _ _ _ H.out).mono ?_
    rintro e w1 ⟨rfl, d, rfl⟩
    dsimp only
    go_wp2_with fail
    go_ret2
    exact ⟨rfl, d, rfl⟩
theorem find_nil (addr : Int) (w : World) (ha : addr ≤ 9223372036854775807) :
    Calls Tryd.prog 29 #[.pointer none, .int .i64 addr] w fun e w' => e = .returned (.tuple #[.int .i64 0, .bool false]) ∧ w = w' := by
  go_enter Tryd.func29, Tryd.ntmps29
  go_wp2_with fail
  refine (place_nil _ _ ha).mono ?_
  rintro e w1 ⟨he, rfl⟩
  obtain ⟨x, y, rfl⟩ := placed_none he
  dsimp only
  go_wp2_with fail
  go_ret2
  exact ⟨rfl, rfl⟩
def fsize (ps : List (Option PM)) (addr : Int) : Int := match slot ps addr with | none => 0 | some (_, p, _) => Cls.csz p.c
theorem size_any (b gp gw : Nat) (ps : List (Option PM)) (ws : List Int) (addr : Int) (w : World) (h : ArenaAt w b gp gw ps ws) (ha : addr ≤ 9223372036854775807) :
    Calls Tryd.prog 31 #[.pointer (some ⟨b, 0, none⟩), .int .i64 addr] w fun e w' => e = .returned (.int .i64 (fsize ps addr)) ∧ w = w' := by
  have H := Lib.hid h
  have HP := Lib.hid (place_any b gp gw ps ws addr w h ha)
  unfold fsize
  rcases hs : slot ps addr with _ | ⟨k, p, s⟩
  · rw [hs] at HP
    clear h hs
    go_enter Tryd.func31, Tryd.ntmps31
    go_wp2_with fail
    refine HP.out.mono ?_
    rintro e w1 ⟨he, rfl⟩
    obtain ⟨x, y, rfl⟩ := placed_none he
    dsimp only
    go_wp2_with fail
    go_ret
    exact ⟨rfl, rfl⟩
  · obtain ⟨hk, -, -, -, -, -, -, hg, -⟩ := slot_some h hs
    have HG := Lib.hid hg
    have HA := Lib.hid (h.page k p hk).1
    rw [hs] at HP
    clear h hs hg hk
    go_enter Tryd.func31, Tryd.ntmps31
    go_wp2_with fail
    refine HP.out.mono ?_
    rintro e w1 ⟨he, rfl⟩
    obtain rfl := placed_some he
    dsimp only
    go_wp2_with fail
    refine (page_any _ _ _ _ _ _ _ H.out).mono ?_
    rw [HG.out]
    rintro e w1 ⟨rfl, rfl⟩
    dsimp only [ptr]
    go_wp2_with fail
    refine (class_any _ _ _ _ _ _ HA.out).mono ?_
    rintro e w1 ⟨rfl, rfl⟩
    dsimp only
    go_wp2_with fail
    refine (Cls.size_any _ _).mono ?_
    rintro e w1 ⟨rfl, rfl⟩
    dsimp only
    go_wp2_with fail
    go_ret
    exact ⟨rfl, rfl⟩
theorem size_nil (addr : Int) (w : World) (ha : addr ≤ 9223372036854775807) :
    Calls Tryd.prog 31 #[.pointer none, .int .i64 addr] w fun e w' => e = .returned (.int .i64 0) ∧ w = w' := by
  go_enter Tryd.func31, Tryd.ntmps31
  go_wp2_with fail
  refine (place_nil _ _ ha).mono ?_
  rintro e w1 ⟨he, rfl⟩
  obtain ⟨x, y, rfl⟩ := placed_none he
  dsimp only
  go_wp2_with fail
  go_ret
  exact ⟨rfl, rfl⟩
def fword (ps : List (Option PM)) (ws : List Int) (addr : Int) : Int := match slot ps addr with | none => 0 | some _ => ws.getD (addr - 1048576).toNat 0
theorem load_any (b gp gw : Nat) (ps : List (Option PM)) (ws : List Int) (addr : Int) (w : World) (h : ArenaAt w b gp gw ps ws) (ha : addr ≤ 9223372036854775807) :
    Calls Tryd.prog 30 #[.pointer (some ⟨b, 0, none⟩), .int .i64 addr] w fun e w' => e = .returned (.tuple #[.int .i64 (fword ps ws addr), .bool (slot ps addr).isSome]) ∧ ∃ n, w' = w.drewN n := by
  have HF := Lib.hid (find_any b gp gw ps ws addr w h ha)
  unfold fword
  rcases hs : slot ps addr with _ | ⟨k, p, s⟩
  · rw [hs] at HF
    clear h hs
    go_enter Tryd.func30, Tryd.ntmps30
    go_wp2_with fail
    refine HF.out.mono ?_
    rintro e w1 ⟨rfl, d, rfl⟩
    dsimp only [Option.isSome]
    go_wp2_with fail
    go_ret2
    exact ⟨rfl, d, rfl⟩
  · obtain ⟨i, hi, hl⟩ := slot_word h hs
    obtain ⟨x, hx⟩ : ∃ x, ws[i]? = some x := ⟨ws[i], List.getElem?_eq_getElem hl⟩
    have hv : ws.getD (addr - 1048576).toNat 0 = x := by rw [hi]; simp [List.getD, hx]
    have hc : w.cell? ⟨gw, i, none⟩ = some (.int .i64 x) := (h.roww.cell i).trans (cells_get hx)
    have hm : ws.length ≤ 2048 := by have := h.hn; have := h.hw; omega
    obtain ⟨c0, c1, f0, f1⟩ := h.blk.two
    rw [hs] at HF
    rw [hv]
    clear h hs hx hv
    go_enter Tryd.func30, Tryd.ntmps30
    go_wp2_with fail
    refine HF.out.mono ?_
    rintro e w1 ⟨rfl, d, rfl⟩
    dsimp only [Option.isSome]
    go_wp2_with (simp only [hi])
    go_ret2
    exact ⟨rfl, d, rfl⟩
theorem load_nil (addr : Int) (w : World) (ha : addr ≤ 9223372036854775807) :
    Calls Tryd.prog 30 #[.pointer none, .int .i64 addr] w fun e w' => e = .returned (.tuple #[.int .i64 0, .bool false]) ∧ w = w' := by
  go_enter Tryd.func30, Tryd.ntmps30
  go_wp2_with fail
  refine (find_nil _ _ ha).mono ?_
  rintro e w1 ⟨rfl, rfl⟩
  dsimp only
  go_wp2_with fail
  go_ret2
  exact ⟨rfl, rfl⟩
theorem store_no (b gp gw : Nat) (ps : List (Option PM)) (ws : List Int) (addr v : Int) (w : World) (h : ArenaAt w b gp gw ps ws) (ha : addr ≤ 9223372036854775807) (hs : slot ps addr = none) :
    Calls Tryd.prog 23 #[.pointer (some ⟨b, 0, none⟩), .int .i64 addr, .int .i64 v] w fun e w' => e = .returned (.bool false) ∧ ∃ n, w' = w.drewN n := by
  have HF := Lib.hid (find_any b gp gw ps ws addr w h ha)
  rw [hs] at HF
  clear h hs
  go_enter Tryd.func23, Tryd.ntmps23
  go_wp2_with fail
  refine HF.out.mono ?_
  rintro e w1 ⟨rfl, d, rfl⟩
  dsimp only [Option.isSome]
  go_wp2_with fail
  go_ret
  exact ⟨rfl, d, rfl⟩
theorem ArenaAt.word {w : World} {b gp gw : Nat} {ps : List (Option PM)} {ws : List Int} (h : ArenaAt w b gp gw ps ws) (i : Nat) (v : Int) : ArenaAt (w.setCell ⟨gw, i, none⟩ (.int .i64 v)) b gp gw ps (ws.set i v) :=
  ⟨by rw [List.length_set]; exact h.blk.other (blk_ne h.blk h.roww (by decide)) _, h.rowp.other (blk_ne h.rowp h.roww (by decide)) _, (h.roww.set i _).of_eq (cells_set ws i v), h.hn, by rw [List.length_set]; exact h.hw,
    fun k p hk => ⟨(h.page k p hk).1.keep (Below.heap_setCell w ⟨gw, i, none⟩ _ p.b (blk_ne (h.page k p hk).1.blk h.roww (by decide))), (h.page k p hk).2⟩, h.inj⟩
theorem store_yes (b gp gw : Nat) (ps : List (Option PM)) (ws : List Int) (addr v : Int) (w : World) (h : ArenaAt w b gp gw ps ws) (ha : addr ≤ 9223372036854775807) (hs : (slot ps addr).isSome = true) :
    Calls Tryd.prog 23 #[.pointer (some ⟨b, 0, none⟩), .int .i64 addr, .int .i64 v] w fun e w' => e = .returned (.bool true) ∧ ArenaAt w' b gp gw ps (ws.set (addr - 1048576).toNat v) ∧ Kept (fun i => i = gw) w w' := by
  have HF := Lib.hid (find_any b gp gw ps ws addr w h ha)
  obtain ⟨⟨k, p, s⟩, hs⟩ := Option.isSome_iff_exists.1 hs
  obtain ⟨i, hi, hl⟩ := slot_word h hs
  obtain ⟨x, hx⟩ : ∃ x, ws[i]? = some x := ⟨ws[i], List.getElem?_eq_getElem hl⟩
  have hc : w.cell? ⟨gw, i, none⟩ = some (.int .i64 x) := (h.roww.cell i).trans (cells_get hx)
  have hf : w.frozen? ⟨gw, i, none⟩ = false := h.roww.free i
  have hm : ws.length ≤ 2048 := by have := h.hn; have := h.hw; omega
  obtain ⟨c0, c1, f0, f1⟩ := h.blk.two
  have H := Lib.hid h
  rw [hs] at HF
  rw [show (addr - 1048576).toNat = i by omega]
  clear h hs hx
  go_enter Tryd.func23, Tryd.ntmps23
  go_wp2_with fail
  refine HF.out.mono ?_
  rintro e w1 ⟨rfl, d, rfl⟩
  dsimp only [Option.isSome]
  go_wp2_with (simp only [hi])
  go_ret
  exact ⟨rfl, (H.out.drewN d).word i v, ((Kept.refl (fun i => i = gw) w).drewN d).set (p := ⟨gw, i, none⟩) (.inl rfl) _⟩
theorem store_nil (addr v : Int) (w : World) (ha : addr ≤ 9223372036854775807) :
    Calls Tryd.prog 23 #[.pointer none, .int .i64 addr, .int .i64 v] w fun e w' => e = .returned (.bool false) ∧ w = w' := by
  go_enter Tryd.func23, Tryd.ntmps23
  go_wp2_with fail
  refine (find_nil _ _ ha).mono ?_
  rintro e w1 ⟨rfl, rfl⟩
  dsimp only
  go_wp2_with fail
  go_ret
  exact ⟨rfl, rfl⟩
end Go.Proofs.YtoajbjeiplolnaaDoorR.Ar
