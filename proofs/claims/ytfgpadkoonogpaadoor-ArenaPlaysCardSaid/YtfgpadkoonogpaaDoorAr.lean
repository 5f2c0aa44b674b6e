/- Package arena: what an arena is in memory; the contracts of Page, Base, place, Find, Size, Load. -/
import Derived.Test.YtfgpadkoonogpaaDoorPgs
import Derived.Test.YtfgpadkoonogpaaDoorClz
import Derived.Laws.BitsLemmas
import Derived.OwnWalk
namespace Go.Proofs.YtfgpadkoonogpaaDoor.Ar
open Go.RowKit Pg
set_option linter.unusedSimpArgs false
set_option linter.unusedVariables false

/-- A page: where it lies, its class, how many slots, which are used, which are marked. -/
structure PM where
  b : Nat
  c : Int
  n : Nat
  U : Nat
  M : Nat
def ptr : Option PM → Value
  | none => .pointer none
  | some p => .pointer (some ⟨p.b, 0, none⟩)
def pgs (ps : List (Option PM)) : Array Value := (ps.map ptr).toArray
def cells (ws : List Int) : Array Value := (ws.map (Value.int .i64)).toArray
theorem pgs_get {ps : List (Option PM)} {k : Nat} {p : Option PM} (h : ps[k]? = some p) : (pgs ps)[k]? = some (ptr p) := by simp [pgs, h]
theorem pgs_size (ps : List (Option PM)) : (pgs ps).size = ps.length := by simp [pgs]
theorem pgs_set (ps : List (Option PM)) (k : Nat) (p : Option PM) : (pgs ps).setIfInBounds k (ptr p) = pgs (ps.set k p) := by simp [pgs, List.map_set]
theorem cells_get {ws : List Int} {k : Nat} {x : Int} (h : ws[k]? = some x) : (cells ws)[k]? = some (.int .i64 x) := by simp [cells, h]
theorem cells_size (ws : List Int) : (cells ws).size = ws.length := by simp [cells]
theorem cells_set (ws : List Int) (k : Nat) (x : Int) : (cells ws).setIfInBounds k (.int .i64 x) = cells (ws.set k x) := by simp [cells, List.map_set]

/-- Block b is an arena: gp has its pages, gw its words. -/
structure ArenaAt (w : World) (b gp gw : Nat) (ps : List (Option PM)) (ws : List Int) : Prop where
  blk : Blk w b #[.slice (some ⟨gp, 0, none⟩) ps.length ps.length, .slice (some ⟨gw, 0, none⟩) ws.length ws.length] 94
  rowp : Blk w gp (pgs ps) 54
  roww : Blk w gw (cells ws) 3
  hn : ps.length ≤ 64
  hw : ws.length = 32 * ps.length
  page : ∀ (k : Nat) (p : PM), ps[k]? = some (some p) → PageAt w p.b p.c p.n p.U p.M ∧ Cls.csl p.c = (p.n : Int)
  inj : ∀ (j k : Nat) (p q : PM), ps[j]? = some (some p) → ps[k]? = some (some q) → p.b = q.b → j = k
/-- The blocks of an arena. -/
def Foot (b gp gw : Nat) (ps : List (Option PM)) (i : Nat) : Prop := i = b ∨ i = gp ∨ i = gw ∨ ∃ (k : Nat) (p : PM), ps[k]? = some (some p) ∧ p.b = i
namespace ArenaAt
variable {w w' : World} {b gp gw : Nat} {ps : List (Option PM)} {ws : List Int}
theorem lt (h : ArenaAt w b gp gw ps ws) {i : Nat} (hi : Foot b gp gw ps i) : i < w.heap.size := by
  rcases hi with rfl | rfl | rfl | ⟨k, p, hk, rfl⟩
  · exact h.blk.lt
  · exact h.rowp.lt
  · exact h.roww.lt
  · exact (h.page k p hk).1.blk.lt
theorem keep (h : ArenaAt w b gp gw ps ws) (hb : ∀ i, Foot b gp gw ps i → w'.heap[i]? = w.heap[i]?) : ArenaAt w' b gp gw ps ws :=
  ⟨(hb b (.inl rfl)).trans h.blk, (hb gp (.inr (.inl rfl))).trans h.rowp, (hb gw (.inr (.inr (.inl rfl)))).trans h.roww, h.hn, h.hw,
    fun k p hk => ⟨(h.page k p hk).1.keep (hb p.b (.inr (.inr (.inr ⟨k, p, hk, rfl⟩)))), (h.page k p hk).2⟩, h.inj⟩
theorem call (h : ArenaAt w b gp gw ps ws) (hb : Below w.heap.size w w') : ArenaAt w' b gp gw ps ws := h.keep fun i hi => hb.block i (h.lt hi)
theorem drewN (h : ArenaAt w b gp gw ps ws) (k : Nat) : ArenaAt (w.drewN k) b gp gw ps ws := h.keep fun _ _ => rfl
theorem kept {S : Nat → Prop} (h : ArenaAt w b gp gw ps ws) (hk : Kept S w w') (hS : ∀ i, Foot b gp gw ps i → ¬ S i) : ArenaAt w' b gp gw ps ws :=
  h.keep fun i hi => hk.block i (h.lt hi) (hS i hi)
end ArenaAt

/-- The page of a number. -/
def get (ps : List (Option PM)) (k : Int) : Option PM := if 0 ≤ k then (ps[k.toNat]?).join else none
theorem get_nat (ps : List (Option PM)) (k : Nat) : get ps (k : Int) = (ps[k]?).join := by unfold get; simp
theorem get_some {ps : List (Option PM)} {k : Int} {p : PM} (h : get ps k = some p) : ∃ j : Nat, k = j ∧ ps[j]? = some (some p) := by
  unfold get at h
  split at h
  · refine ⟨k.toNat, by omega, ?_⟩
    cases e : ps[k.toNat]? with
    | none => rw [e] at h; cases h
    | some q => rw [e] at h; exact congrArg some h
  · cases h
theorem get_lt {ps : List (Option PM)} {k : Int} {p : PM} (h : get ps k = some p) : 0 ≤ k ∧ k < ps.length := by
  obtain ⟨j, rfl, hj⟩ := get_some h
  have := (List.getElem?_eq_some_iff.1 hj).1
  omega
theorem page_any (b gp gw : Nat) (ps : List (Option PM)) (ws : List Int) (k : Int) (w : World) (h : ArenaAt w b gp gw ps ws) :
    Calls Tryd.prog 22 #[.pointer (some ⟨b, 0, none⟩), .int .i64 k] w fun e w' => e = .returned (ptr (get ps k)) ∧ w = w' := by
  obtain ⟨c0, c1, f0, f1⟩ := h.blk.two
  have hn := h.hn
  by_cases h1 : k < 0
  · have : get ps k = none := by unfold get; rw [if_neg (by omega)]
    rw [this]
    clear h
    go_enter Tryd.func22, Tryd.ntmps22
    go_wp2_with fail
    go_ret
    exact ⟨rfl, rfl⟩
  obtain ⟨j, rfl⟩ : ∃ j : Nat, k = j := ⟨k.toNat, by omega⟩
  rw [get_nat]
  by_cases h2 : j < ps.length
  · obtain ⟨p, hp⟩ : ∃ p, ps[j]? = some p := ⟨ps[j], List.getElem?_eq_getElem h2⟩
    have hc : w.cell? ⟨gp, j, none⟩ = some (ptr p) := (h.rowp.cell j).trans (pgs_get hp)
    have hd : (ps[j]?).join = p := by rw [hp]; rfl
    rw [hd]
    have hv : ∃ a, ptr p = .pointer a := by cases p <;> exact ⟨_, rfl⟩
    obtain ⟨a, ha⟩ := hv
    rw [ha] at hc ⊢
    have h3 : (j : Int) < (ps.length : Int) := by omega
    clear h hp hd ha
    go_enter Tryd.func22, Tryd.ntmps22
    go_wp2_with fail
    go_ret
    exact ⟨rfl, rfl⟩
  · have : (ps[j]?).join = none := by rw [List.getElem?_eq_none (by omega)]; rfl
    rw [this]
    have h3 : (ps.length : Int) ≤ (j : Int) := by omega
    clear h
    go_enter Tryd.func22, Tryd.ntmps22
    go_wp2_with fail
    go_ret
    exact ⟨rfl, rfl⟩
theorem page_nil (k : Int) (w : World) :
    Calls Tryd.prog 22 #[.pointer none, .int .i64 k] w fun e w' => e = .returned (.pointer none) ∧ w = w' := by
  go_enter Tryd.func22, Tryd.ntmps22
  go_wp2_with fail
  go_ret
  exact ⟨rfl, rfl⟩
/-- Where a slot begins. -/
def base (ps : List (Option PM)) (k s : Int) : Int :=
  match get ps k with
  | none => 0
  | some p => if 0 ≤ s ∧ s < p.n then 1048576 + k * 32 + s * Cls.csz p.c else 0
theorem base_none {ps : List (Option PM)} {k s : Int} (h : get ps k = none) : base ps k s = 0 := by unfold base; rw [h]
theorem base_some {ps : List (Option PM)} {k s : Int} {p : PM} (h : get ps k = some p) : base ps k s = if 0 ≤ s ∧ s < p.n then 1048576 + k * 32 + s * Cls.csz p.c else 0 := by unfold base; rw [h]
theorem slot_bd {s z : Int} (h0 : 0 ≤ s) (h1 : s ≤ 32) (h2 : 0 ≤ z) (h3 : z ≤ 16) : 0 ≤ s * z ∧ s * z ≤ 512 := by
  refine ⟨Int.mul_nonneg h0 h2, ?_⟩
  have := Int.mul_le_mul h1 h3 h2 (by omega)
  omega
theorem base_any (b gp gw : Nat) (ps : List (Option PM)) (ws : List Int) (k s : Int) (w : World) (h : ArenaAt w b gp gw ps ws) :
    Calls Tryd.prog 24 #[.pointer (some ⟨b, 0, none⟩), .int .i64 k, .int .i64 s] w fun e w' => e = .returned (.int .i64 (base ps k s)) ∧ ∃ n, w' = w.drewN n := by
  have H := Lib.hid h
  rcases hg : get ps k with _ | p
  · rw [base_none hg]
    have HG := Lib.hid hg
    clear hg h
    by_cases h1 : s < 0
    all_goals
      go_enter Tryd.func24, Tryd.ntmps24
      go_wp2_with fail
      refine (page_any _ _ _ _ _ _ _ H.out).mono ?_
      rw [HG.out]
      rintro e w1 ⟨rfl, rfl⟩
      dsimp only [ptr]
      go_wp2_with fail
      refine (count_nil _).mono ?_
      rintro e w1 ⟨rfl, rfl⟩
      dsimp only
      go_wp2_with fail
      go_ret
      exact ⟨rfl, 0, rfl⟩
  · rw [base_some hg]
    obtain ⟨j, rfl, hj⟩ := get_some hg
    have HP := Lib.hid (h.page j p hj).1
    have hk := get_lt hg
    have hn := h.hn
    have hpn := (h.page j p hj).1.hn
    have HG := Lib.hid hg
    have hz := Cls.csz_bd p.c
    clear h hg hj
    by_cases h1 : s < 0
    · rw [if_neg (by omega)]
      go_enter Tryd.func24, Tryd.ntmps24
      go_wp2_with fail
      refine (page_any _ _ _ _ _ _ _ H.out).mono ?_
      rw [HG.out]
      rintro e w1 ⟨rfl, rfl⟩
      dsimp only [ptr]
      go_wp2_with fail
      refine (count_any _ _ _ _ _ _ HP.out).mono ?_
      rintro e w1 ⟨rfl, d, rfl⟩
      dsimp only
      go_wp2_with fail
      go_ret
      exact ⟨rfl, d, rfl⟩
    by_cases h2 : (p.n : Int) ≤ s
    · rw [if_neg (by omega)]
      go_enter Tryd.func24, Tryd.ntmps24
      go_wp2_with fail
      refine (page_any _ _ _ _ _ _ _ H.out).mono ?_
      rw [HG.out]
      rintro e w1 ⟨rfl, rfl⟩
      dsimp only [ptr]
      go_wp2_with fail
      refine (count_any _ _ _ _ _ _ HP.out).mono ?_
      rintro e w1 ⟨rfl, d, rfl⟩
      dsimp only
      go_wp2_with fail
      go_ret
      exact ⟨rfl, d, rfl⟩
    · rw [if_pos (by omega)]
      have hm := slot_bd (s := s) (z := Cls.csz p.c) (by omega) (by omega) hz.1 hz.2
      have hw1 : wrap64 (s * Cls.csz p.c) = s * Cls.csz p.c := wrap64_id (by omega)
      have hw2 : wrap64 (1048576 + (j : Int) * 32 + s * Cls.csz p.c) = 1048576 + (j : Int) * 32 + s * Cls.csz p.c := wrap64_id (by omega)
      go_enter Tryd.func24, Tryd.ntmps24
      go_wp2_with fail
      refine (page_any _ _ _ _ _ _ _ H.out).mono ?_
      rw [HG.out]
      rintro e w1 ⟨rfl, rfl⟩
      dsimp only [ptr]
      go_wp2_with fail
      refine (count_any _ _ _ _ _ _ HP.out).mono ?_
      rintro e w1 ⟨rfl, d, rfl⟩
      dsimp only
      have HP1 := Lib.hid (HP.out.drewN d)
      go_wp2_with fail
      refine (class_any _ _ _ _ _ _ HP1.out).mono ?_
      rintro e w1 ⟨rfl, rfl⟩
      dsimp only
      go_wp2_with fail
      refine (Cls.size_any _ _).mono ?_
      rintro e w1 ⟨rfl, rfl⟩
      dsimp only
      go_wp2_with (first | simp only [hw1] | simp only [hw2])
      go_ret
      exact ⟨rfl, d, rfl⟩
theorem base_nil (k s : Int) (w : World) :
    Calls Tryd.prog 24 #[.pointer none, .int .i64 k, .int .i64 s] w fun e w' => e = .returned (.int .i64 0) ∧ w = w' := by
  by_cases h1 : s < 0
  all_goals
    go_enter Tryd.func24, Tryd.ntmps24
    go_wp2_with fail
    refine (page_nil _ _).mono ?_
    rintro e w1 ⟨rfl, rfl⟩
    dsimp only
    go_wp2_with fail
    refine (count_nil _).mono ?_
    rintro e w1 ⟨rfl, rfl⟩
    dsimp only
    go_wp2_with fail
    go_ret
    exact ⟨rfl, rfl⟩
/-- The slot that an address is in: its page's number, the page, the slot's number. -/
def slot (ps : List (Option PM)) (addr : Int) : Option (Nat × PM × Nat) :=
  if addr < 1048576 then none else
  match get ps ((addr - 1048576) / 32) with
  | none => none
  | some p => if (addr - 1048576) % 32 < Cls.csl p.c * Cls.csz p.c ∧ at_ p.U ((addr - 1048576) % 32 / Cls.csz p.c) = true then some (((addr - 1048576) / 32).toNat, p, ((addr - 1048576) % 32 / Cls.csz p.c).toNat) else none
def Placed (o : Option (Nat × PM × Nat)) (e : Ending) : Prop :=
  match o with
  | none => ∃ x y, e = .returned (.tuple #[.int .i64 x, .int .i64 y, .bool false])
  | some (k, _, s) => e = .returned (.tuple #[.int .i64 k, .int .i64 s, .bool true])
theorem and31 (x : Int) (h0 : 0 ≤ x) (h1 : x ≤ 9223372036854775807) : bits BinOp.and IntKind.i64 x 31 = x % 32 :=
  bits_mask .i64 63 (by decide) (fun n h0 h1 => by rw [IntKind.wrap_i64]; omega) 5 (by decide) x h0 (by omega)
theorem place_any (b gp gw : Nat) (ps : List (Option PM)) (ws : List Int) (addr : Int) (w : World) (h : ArenaAt w b gp gw ps ws) (ha : addr ≤ 9223372036854775807) :
    Calls Tryd.prog 47 #[.pointer (some ⟨b, 0, none⟩), .int .i64 addr] w fun e w' => Placed (slot ps addr) e ∧ w = w' := by
  have H := Lib.hid h
  by_cases h1 : addr < 1048576
  · have hs : slot ps addr = none := by unfold slot; rw [if_pos h1]
    rw [hs]
    clear h hs
    go_enter Tryd.func47, Tryd.ntmps47
    go_wp2_with fail
    go_ret3
    exact ⟨⟨_, _, rfl⟩, rfl⟩
  obtain ⟨x, hx⟩ : ∃ x, addr - 1048576 = x := ⟨_, rfl⟩
  have hx0 : 0 ≤ x := by omega
  have hx1 : x ≤ 9223372036853727231 := by omega
  have hand := and31 x hx0 (by omega)
  have hsub : wrap64 (addr - 1048576) = x := by rw [hx]; exact wrap64_id (by omega)
  rcases hg : get ps (x / 32) with _ | p
  · have hs : slot ps addr = none := by unfold slot; rw [if_neg h1, hx, hg]
    rw [hs]
    have HG := Lib.hid hg
    clear h hs hg
    go_enter Tryd.func47, Tryd.ntmps47
    go_wp2_with (simp only [hx])
    refine (page_any _ _ _ _ _ _ _ H.out).mono ?_
    rw [HG.out]
    rintro e w1 ⟨rfl, rfl⟩
    dsimp only [ptr]
    go_wp2_with fail
    refine (class_nil _).mono ?_
    rintro e w1 ⟨rfl, rfl⟩
    dsimp only
    go_wp2_with (simp only [hand])
    refine (Cls.slot_out _ _ _ (.inr (by rw [show Cls.csl (-1) = 0 by decide, Int.zero_mul]; omega))).mono ?_
    rintro e w1 ⟨rfl, rfl⟩
    dsimp only
    go_wp2_with fail
    go_ret3
    exact ⟨⟨_, _, rfl⟩, rfl⟩
  · obtain ⟨j, hj, hjp⟩ := get_some hg
    have HP := Lib.hid (h.page j p hjp).1
    have HG := Lib.hid hg
    clear hj
    have hs0 : slot ps addr = if x % 32 < Cls.csl p.c * Cls.csz p.c ∧ at_ p.U (x % 32 / Cls.csz p.c) = true then some ((x / 32).toNat, p, (x % 32 / Cls.csz p.c).toNat) else none := by unfold slot; rw [if_neg h1, hx, hg]
    have hm0 : 0 ≤ x % 32 := by omega
    by_cases h2 : Cls.csl p.c * Cls.csz p.c ≤ x % 32
    · have hs : slot ps addr = none := by rw [hs0, if_neg (by omega)]
      rw [hs]
      clear h hs hg hjp hs0
      go_enter Tryd.func47, Tryd.ntmps47
      go_wp2_with (simp only [hx])
      refine (page_any _ _ _ _ _ _ _ H.out).mono ?_
      rw [HG.out]
      rintro e w1 ⟨rfl, rfl⟩
      dsimp only [ptr]
      go_wp2_with fail
      refine (class_any _ _ _ _ _ _ HP.out).mono ?_
      rintro e w1 ⟨rfl, rfl⟩
      dsimp only
      go_wp2_with (simp only [hand])
      refine (Cls.slot_out _ _ _ (.inr h2)).mono ?_
      rintro e w1 ⟨rfl, rfl⟩
      dsimp only
      go_wp2_with fail
      go_ret3
      exact ⟨⟨_, _, rfl⟩, rfl⟩
    · have h3 : x % 32 < Cls.csl p.c * Cls.csz p.c := by omega
      have hq0 : 0 ≤ x % 32 / Cls.csz p.c := Int.ediv_nonneg hm0 (Cls.csz_bd p.c).1
      have HS := Lib.hid (show Placed (slot ps addr) (.returned (.tuple #[.int .i64 (x / 32), .int .i64 (x % 32 / Cls.csz p.c), .bool (at_ p.U (x % 32 / Cls.csz p.c))])) by
        cases ht : at_ p.U (x % 32 / Cls.csz p.c) with
        | true =>
          rw [hs0, if_pos ⟨h3, ht⟩]
          show Ending.returned _ = Ending.returned _
          rw [show (((x / 32).toNat : Nat) : Int) = x / 32 by omega, Int.toNat_of_nonneg hq0]
        | false =>
          rw [hs0, if_neg (by rw [ht]; simp)]
          exact ⟨_, _, rfl⟩)
      clear h hg hjp hs0
      have H3 := Lib.hid h3
      clear h3 h2
      generalize ht : at_ p.U (x % 32 / Cls.csz p.c) = t at *
      have HT := Lib.hid ht
      clear ht
      go_enter Tryd.func47, Tryd.ntmps47
      go_wp2_with (simp only [hx])
      refine (page_any _ _ _ _ _ _ _ H.out).mono ?_
      rw [HG.out]
      rintro e w1 ⟨rfl, rfl⟩
      dsimp only [ptr]
      go_wp2_with fail
      refine (class_any _ _ _ _ _ _ HP.out).mono ?_
      rintro e w1 ⟨rfl, rfl⟩
      dsimp only
      go_wp2_with (simp only [hand])
      refine (Cls.slot_in _ _ _ hm0 H3.out).mono ?_
      rintro e w1 ⟨rfl, rfl⟩
      dsimp only
      go_wp2_with fail
      refine (used_any _ _ _ _ _ _ _ HP.out).mono ?_
      rw [HT.out]
      rintro e w1 ⟨rfl, rfl⟩
      dsimp only
      go_wp2_with fail
      go_ret3
      exact ⟨HS.out, rfl⟩
theorem place_nil (addr : Int) (w : World) (ha : addr ≤ 9223372036854775807) :
    Calls Tryd.prog 47 #[.pointer none, .int .i64 addr] w fun e w' => Placed none e ∧ w = w' := by
  by_cases h1 : addr < 1048576
  · go_enter Tryd.func47, Tryd.ntmps47
    go_wp2_with fail
    go_ret3
    exact ⟨⟨_, _, rfl⟩, rfl⟩
  obtain ⟨x, hx⟩ : ∃ x, addr - 1048576 = x := ⟨_, rfl⟩
  have hx0 : 0 ≤ x := by omega
  have hx1 : x ≤ 9223372036853727231 := by omega
  have hand := and31 x hx0 (by omega)
  go_enter Tryd.func47, Tryd.ntmps47
  go_wp2_with (simp only [hx])
  refine (page_nil _ _).mono ?_
  rintro e w1 ⟨rfl, rfl⟩
  dsimp only
  go_wp2_with fail
  refine (class_nil _).mono ?_
  rintro e w1 ⟨rfl, rfl⟩
  dsimp only
  go_wp2_with (simp only [hand])
  refine (Cls.slot_out _ _ _ (.inr (by rw [show Cls.csl (-1) = 0 by decide, Int.zero_mul]; omega))).mono ?_
  rintro e w1 ⟨rfl, rfl⟩
  dsimp only
  go_wp2_with fail
  go_ret3
  exact ⟨⟨_, _, rfl⟩, rfl⟩
end Go.Proofs.YtfgpadkoonogpaaDoor.Ar
