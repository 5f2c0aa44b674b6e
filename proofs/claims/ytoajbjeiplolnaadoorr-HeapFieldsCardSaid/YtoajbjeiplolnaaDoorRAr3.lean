/- Package arena: the contracts of Drop, Room, Free. -/
import Derived.Test.YtoajbjeiplolnaaDoorRAr2
namespace Go.Proofs.YtoajbjeiplolnaaDoorR.Ar
open Go.RowKit Pg
set_option linter.unusedSimpArgs false
set_option linter.unusedVariables false

theorem drop_no (b gp gw : Nat) (ps : List (Option PM)) (ws : List Int) (k : Int) (w : World) (h : ArenaAt w b gp gw ps ws) (hk : ∀ p, get ps k = some p → 0 < (Bit.bl p.U).length) :
    Calls Tryd.prog 24 #[.pointer (some ⟨b, 0, none⟩), .int .i64 k] w fun e w' => e = .returned (.bool false) ∧ ∃ n, w' = w.drewN n := by
  have H := Lib.hid h
  rcases hg : get ps k with _ | p
  · have HG := Lib.hid hg
    clear h hk hg
    go_enter Tryd.func24, Tryd.ntmps24
    go_wp2_with fail
    refine (page_any _ _ _ _ _ _ _ H.out).mono ?_
    rw [HG.out]
    rintro e w1 ⟨rfl, rfl⟩
    dsimp only [ptr]
    go_wp2_with fail
    refine (count_nil _).mono ?_
    rintro e w1 ⟨rfl, rfl⟩
    dsimp only
    go_wp2_with fail
    go_ret
    exact ⟨rfl, 0, rfl⟩
  · have HG := Lib.hid hg
    obtain ⟨j, rfl, hj⟩ := get_some hg
    have hp := hk p hg
    have hp0 : (0 : Int) < ((Bit.bl p.U).length : Int) := by omega
    have HP := Lib.hid (h.page j p hj).1
    clear h hk hg hj hp
    go_enter Tryd.func24, Tryd.ntmps24
    go_wp2_with fail
    refine (page_any _ _ _ _ _ _ _ H.out).mono ?_
    rw [HG.out]
    rintro e w1 ⟨rfl, rfl⟩
    dsimp only [ptr]
    go_wp2_with fail
    refine (count_any _ _ _ _ _ _ HP.out).mono ?_
    rintro e w1 ⟨rfl, d, rfl⟩
    dsimp only
    go_wp2_with fail
    go_ret
    exact ⟨rfl, d, rfl⟩
theorem ArenaAt.page_set {w : World} {b gp gw : Nat} {ps : List (Option PM)} {ws : List Int} (h : ArenaAt w b gp gw ps ws) (k : Nat) : ArenaAt (w.setCell ⟨gp, k, none⟩ (.pointer none)) b gp gw (ps.set k none) ws :=
  ⟨by rw [List.length_set]; exact h.blk.other (blk_ne h.blk h.rowp (by decide)) _, (h.rowp.set k _).of_eq (pgs_set ps k none), h.roww.other (blk_ne h.roww h.rowp (by decide)) _, by rw [List.length_set]; exact h.hn, by rw [List.length_set]; exact h.hw,
    fun i p hi => by
      have hi' : ps[i]? = some (some p) := by
        by_cases e : k = i
        · subst e
          rw [List.getElem?_set] at hi
          simp at hi
        · rwa [List.getElem?_set_ne e] at hi
      exact ⟨(h.page i p hi').1.keep (Below.heap_setCell w ⟨gp, k, none⟩ _ p.b (blk_ne (h.page i p hi').1.blk h.rowp (by decide))), (h.page i p hi').2⟩,
    fun i j p q hi hj e => by
      have hx : ∀ (i : Nat) (p : PM), (ps.set k none)[i]? = some (some p) → ps[i]? = some (some p) := by
        intro i p hi
        by_cases e : k = i
        · subst e
          rw [List.getElem?_set] at hi
          simp at hi
        · rwa [List.getElem?_set_ne e] at hi
      exact h.inj i j p q (hx i p hi) (hx j q hj) e⟩
theorem drop_yes (b gp gw : Nat) (ps : List (Option PM)) (ws : List Int) (k : Nat) (p : PM) (w : World) (h : ArenaAt w b gp gw ps ws) (hk : ps[k]? = some (some p)) (h0 : (Bit.bl p.U).length = 0) :
    Calls Tryd.prog 24 #[.pointer (some ⟨b, 0, none⟩), .int .i64 k] w fun e w' => e = .returned (.bool true) ∧ ArenaAt w' b gp gw (ps.set k none) ws ∧ Kept (fun i => i = gp) w w' := by
  have H := Lib.hid h
  have hg : get ps (k : Int) = some p := by rw [get_nat, hk]; rfl
  have HG := Lib.hid hg
  have HP := Lib.hid (h.page k p hk).1
  have hl := get_lt hg
  have hn := h.hn
  have hc : w.cell? ⟨gp, k, none⟩ = some (ptr (some p)) := (h.rowp.cell k).trans (pgs_get hk)
  have hf : w.frozen? ⟨gp, k, none⟩ = false := h.rowp.free k
  obtain ⟨c0, c1, f0, f1⟩ := h.blk.two
  have hp0 : ¬ (0 : Int) < ((Bit.bl p.U).length : Int) := by omega
  unfold ptr at hc
  clear h hg hk
  go_enter Tryd.func24, Tryd.ntmps24
  go_wp2_with fail
  refine (page_any _ _ _ _ _ _ _ H.out).mono ?_
  rw [HG.out]
  rintro e w1 ⟨rfl, rfl⟩
  dsimp only [ptr]
  go_wp2_with fail
  refine (count_any _ _ _ _ _ _ HP.out).mono ?_
  rintro e w1 ⟨rfl, d, rfl⟩
  dsimp only
  go_wp2_with fail
  go_ret
  exact ⟨rfl, (H.out.drewN d).page_set k, ((Kept.refl (fun i => i = gp) w).drewN d).set (p := ⟨gp, k, none⟩) (.inl rfl) _⟩
theorem drop_nil (k : Int) (w : World) :
    Calls Tryd.prog 24 #[.pointer none, .int .i64 k] w fun e w' => e = .returned (.bool false) ∧ w = w' := by
  go_enter Tryd.func24, Tryd.ntmps24
  go_wp2_with fail
  refine (page_nil _ _).mono ?_
  rintro e w1 ⟨rfl, rfl⟩
  dsimp only
  go_wp2_with fail
  refine (count_nil _).mono ?_
  rintro e w1 ⟨rfl, rfl⟩
  dsimp only
  go_wp2_with fail
  go_ret
  exact ⟨rfl, rfl⟩
/-- How many pages have no class. -/
def nf (ps : List (Option PM)) : Nat := ps.countP Option.isNone
theorem nf_succ {ps : List (Option PM)} {j : Nat} {p : Option PM} (h : ps[j]? = some p) : nf (ps.take (j + 1)) = nf (ps.take j) + if p.isNone then 1 else 0 := by
  unfold nf
  rw [List.take_add_one, h, List.countP_append]
  cases p <;> rfl
theorem nf_le (ps : List (Option PM)) : nf ps ≤ ps.length := List.countP_le_length
theorem room_any (b gp gw : Nat) (ps : List (Option PM)) (ws : List Int) (w : World) (h : ArenaAt w b gp gw ps ws) :
    Calls Tryd.prog 27 #[.pointer (some ⟨b, 0, none⟩)] w fun e w' => e = .returned (.tuple #[.int .i64 (nf ps), .int .i64 ps.length]) ∧ ∃ n, w' = w.drewN n := by
  have hn := h.hn
  obtain ⟨c0, c1, f0, f1⟩ := h.blk.two
  have H := Lib.hid h
  clear h
  go_enter Tryd.func27, Tryd.ntmps27
  go_wp2_with fail
  go_loopw [4, 14] (fun n i wr => ∃ j : Nat, j ≤ ps.length ∧ n = .int .i64 (nf (ps.take j)) ∧ i = .int .i64 j ∧ wr = w) (fun _ i _ => ps.length - (intOf i).toNat)
  case atStart => exact ⟨0, Nat.zero_le _, rfl, rfl, rfl⟩
  case round =>
    obtain ⟨j, hj, rfl, rfl, rfl⟩ := hrel
    have hnn := nf_le (ps.take j)
    rw [List.length_take] at hnn
    by_cases hlt : j < ps.length
    · obtain ⟨p, hp⟩ : ∃ p, ps[j]? = some p := ⟨ps[j], List.getElem?_eq_getElem hlt⟩
      have hc := (H.out.rowp.cell j).trans (pgs_get hp)
      have HS := Lib.hid (nf_succ hp)
      have h3 : (j : Int) < (ps.length : Int) := by omega
      clear hp
      cases p with
      | none =>
        unfold ptr at hc
        go_wp2_with fail
        go_roundw
        case rel => exact ⟨j + 1, by omega, by rw [HS.out]; rfl, rfl, trivial⟩
        case measure => simp [intOf]; omega
      | some p =>
        unfold ptr at hc
        go_wp2_with fail
        go_roundw
        case rel => exact ⟨j + 1, by omega, by rw [HS.out]; rfl, rfl, trivial⟩
        case measure => simp [intOf]; omega
    · obtain rfl : j = ps.length := by omega
      rw [List.take_length]
      go_wp2_with fail
      go_quiet (fail)
      go_wp2_with fail
      go_ret2
      exact ⟨rfl, _, rfl⟩
theorem room_nil (w : World) : Calls Tryd.prog 27 #[.pointer none] w fun e w' => e = .returned (.tuple #[.int .i64 0, .int .i64 0]) ∧ w = w' := by
  go_enter Tryd.func27, Tryd.ntmps27
  go_wp2_with fail
  go_ret2
  exact ⟨rfl, rfl⟩
/-- A page's masks turn, and nothing else. -/
theorem ArenaAt.turn {w w' : World} {b gp gw : Nat} {ps : List (Option PM)} {ws : List Int} (h : ArenaAt w b gp gw ps ws) {k : Nat} {p : PM} (hk : ps[k]? = some (some p)) {U M : Nat}
    (hp : PageAt w' p.b p.c p.n U M) (hK : Kept (fun i => i = p.b) w w') : ArenaAt w' b gp gw (ps.set k (some ⟨p.b, p.c, p.n, U, M⟩)) ws := by
  have hl := (List.getElem?_eq_some_iff.1 hk).1
  have hpp := (h.page k p hk).1.blk
  have hx : ∀ (i : Nat) (q : PM), (ps.set k (some ⟨p.b, p.c, p.n, U, M⟩))[i]? = some (some q) → (i = k ∧ q = ⟨p.b, p.c, p.n, U, M⟩) ∨ (i ≠ k ∧ ps[i]? = some (some q)) := by
    intro i q hi
    by_cases e : k = i
    · subst e
      rw [List.getElem?_set_self hl] at hi
      exact .inl ⟨rfl, (Option.some.inj (Option.some.inj hi)).symm⟩
    · rw [List.getElem?_set_ne e] at hi
      exact .inr ⟨fun e' => e e'.symm, hi⟩
  refine ⟨by rw [List.length_set]; exact hK.blk h.blk (blk_ne h.blk hpp (by decide)), ?_, hK.blk h.roww (blk_ne h.roww hpp (by decide)), by rw [List.length_set]; exact h.hn, by rw [List.length_set]; exact h.hw, ?_, ?_⟩
  · refine (hK.blk h.rowp (blk_ne h.rowp hpp (by decide))).of_eq ?_
    rw [← pgs_set]
    apply Array.ext
    · simp
    · intro i h1 h2
      rw [Array.getElem_setIfInBounds]
      split
      · rename_i e
        subst e
        have := pgs_get hk
        rw [Array.getElem?_eq_getElem h1] at this
        exact Option.some.inj this
      · rfl
  · intro i q hi
    rcases hx i q hi with ⟨rfl, rfl⟩ | ⟨hne, hi⟩
    · exact ⟨hp, (h.page i p hk).2⟩
    · have hq := h.page i q hi
      exact ⟨hq.1.keep (hK.block _ hq.1.blk.lt (fun e => hne (h.inj i k q p hi hk e))), hq.2⟩
  · intro i j q r hi hj e
    rcases hx i q hi with ⟨hik, rfl⟩ | ⟨hne, hi'⟩
    · rcases hx j r hj with ⟨hjk, rfl⟩ | ⟨hne', hj'⟩
      · rw [hik, hjk]
      · rw [hik]; exact h.inj k j p r hk hj' e
    · rcases hx j r hj with ⟨hjk, rfl⟩ | ⟨hne', hj'⟩
      · rw [hjk]; exact h.inj i k q p hi' hk e
      · exact h.inj i j q r hi' hj' e
theorem free_no (b gp gw : Nat) (ps : List (Option PM)) (ws : List Int) (addr : Int) (w : World) (h : ArenaAt w b gp gw ps ws) (ha : addr ≤ 9223372036854775807) (hs : ∀ k p s, slot ps addr = some (k, p, s) → base ps k s ≠ addr) :
    Calls Tryd.prog 22 #[.pointer (some ⟨b, 0, none⟩), .int .i64 addr] w fun e w' => e = .returned (.bool false) ∧ ∃ n, w' = w.drewN n := by
  have H := Lib.hid h
  have HP := Lib.hid (place_any b gp gw ps ws addr w h ha)
  rcases hsl : slot ps addr with _ | ⟨k, p, s⟩
  · rw [hsl] at HP
    clear h hs hsl
    go_enter Tryd.func22, Tryd.ntmps22
    go_wp2_with fail
    refine HP.out.mono ?_
    rintro e w1 ⟨he, rfl⟩
    obtain ⟨x, y, rfl⟩ := placed_none he
    dsimp only
    go_wp2_with fail
    go_ret
    exact ⟨rfl, 0, rfl⟩
  · have hne := hs k p s hsl
    rw [hsl] at HP
    have HN := Lib.hid (show (base ps k s == addr) = false by simpa using hne)
    clear h hs hsl hne
    go_enter Tryd.func22, Tryd.ntmps22
    go_wp2_with fail
    refine HP.out.mono ?_
    rintro e w1 ⟨he, rfl⟩
    obtain rfl := placed_some he
    dsimp only
    go_wp2_with fail
    refine (base_any _ _ _ _ _ _ _ _ H.out).mono ?_
    rintro e w1 ⟨rfl, d, rfl⟩
    dsimp only
    have hN := HN.out
    generalize base ps k s = z at *
    go_wp2_with fail
    go_ret
    exact ⟨rfl, d, rfl⟩
theorem free_yes (b gp gw : Nat) (ps : List (Option PM)) (ws : List Int) (addr : Int) (k : Nat) (p : PM) (s : Nat) (w : World) (h : ArenaAt w b gp gw ps ws) (ha : addr ≤ 9223372036854775807) (hs : slot ps addr = some (k, p, s)) (hb : base ps k s = addr) :
    Calls Tryd.prog 22 #[.pointer (some ⟨b, 0, none⟩), .int .i64 addr] w fun e w' => e = .returned (.bool true) ∧ ArenaAt w' b gp gw (ps.set k (some ⟨p.b, p.c, p.n, del p.U s, del p.M s⟩)) ws ∧ Kept (fun i => i = p.b) w w' := by
  have H := Lib.hid h
  have HP := Lib.hid (place_any b gp gw ps ws addr w h ha)
  obtain ⟨hk, hU, -, -, -, -, -, hg, -⟩ := slot_some h hs
  have HG := Lib.hid hg
  have HK := Lib.hid hk
  have HU := Lib.hid hU
  have HB := Lib.hid hb
  have HA := Lib.hid (h.page k p hk).1
  rw [hs] at HP
  clear h hs hg hk hU hb
  go_enter Tryd.func22, Tryd.ntmps22
  go_wp2_with fail
  refine HP.out.mono ?_
  rintro e w1 ⟨he, rfl⟩
  obtain rfl := placed_some he
  dsimp only
  go_wp2_with fail
  refine (base_any _ _ _ _ _ _ _ _ H.out).mono ?_
  rw [HB.out]
  rintro e w1 ⟨rfl, d, rfl⟩
  dsimp only
  have H1 := Lib.hid (H.out.drewN d)
  have HA1 := Lib.hid (HA.out.drewN d)
  go_wp2_with fail
  refine (page_any _ _ _ _ _ _ _ H1.out).mono ?_
  rw [HG.out]
  rintro e w1 ⟨rfl, rfl⟩
  dsimp only [ptr]
  go_wp2_with fail
  refine (Pg.free_yes _ _ _ _ _ _ _ HA1.out HU.out).mono ?_
  rintro e w2 ⟨rfl, hp, hK⟩
  have HR := Lib.hid (show ArenaAt w2 b gp gw (ps.set k (some ⟨p.b, p.c, p.n, del p.U s, del p.M s⟩)) ws from H1.out.turn HK.out hp hK)
  have HR2 := Lib.hid (show Kept (fun i => i = p.b) w w2 from ((Kept.refl (fun i => i = p.b) w).drewN d).trans hK)
  clear hp hK
  dsimp only
  go_wp2_with fail
  go_ret
  exact ⟨rfl, HR.out, HR2.out⟩
theorem free_nil (addr : Int) (w : World) (ha : addr ≤ 9223372036854775807) :
    Calls Tryd.prog 22 #[.pointer none, .int .i64 addr] w fun e w' => e = .returned (.bool false) ∧ w = w' := by
  go_enter Tryd.func22, Tryd.ntmps22
  go_wp2_with fail
  refine (place_nil _ _ ha).mono ?_
  rintro e w1 ⟨he, rfl⟩
  obtain ⟨x, y, rfl⟩ := placed_none he
  dsimp only
  go_wp2_with fail
  go_ret
  exact ⟨rfl, rfl⟩
end Go.Proofs.YtoajbjeiplolnaaDoorR.Ar
