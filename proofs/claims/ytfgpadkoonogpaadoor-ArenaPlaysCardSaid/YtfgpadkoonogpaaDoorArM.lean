/- besomlaw6.ArenaPlays: the law's own model of an arena in memory; its method slot. -/
import Derived.Test.YtfgpadkoonogpaaDoorArP
import Derived.Test.YtfgpadkoonogpaaDoorBook12
import Derived.Test.YtfgpadkoonogpaaDoorBRow
import Derived.Deep.CutBlock
import Derived.Deep.CutRange
namespace Go.Proofs.YtfgpadkoonogpaaDoor.Ar
open Go.RowKit Pg
set_option linter.unusedSimpArgs false
set_option linter.unusedVariables false

def cl : Option PM → Int
  | none => -1
  | some p => p.c
def uv (g : Nat) : Option PM → Value
  | none => .slice none 0 0
  | some p => .slice (some ⟨g, 0, none⟩) p.n p.n
def urow (gs : Nat → Nat) (ps : List (Option PM)) : Array Value := (ps.mapIdx fun k p => uv (gs k) p).toArray
theorem urow_get {gs : Nat → Nat} {ps : List (Option PM)} {k : Nat} {p : Option PM} (h : ps[k]? = some p) : (urow gs ps)[k]? = some (uv (gs k) p) := by simp [urow, h]
theorem urow_size (gs : Nat → Nat) (ps : List (Option PM)) : (urow gs ps).size = ps.length := by simp [urow]
theorem cls_get {ps : List (Option PM)} {k : Nat} {p : Option PM} (h : ps[k]? = some p) : (cells (ps.map cl))[k]? = some (.int .i64 (cl p)) := cells_get (by simp [h])
/-- The model: block bm; bc has the classes, bu the rows of used slots (of page k in block gs k), bw the words. -/
structure MdlAt (w : World) (bm bc bu bw : Nat) (gs : Nat → Nat) (ps : List (Option PM)) (ws : List Int) : Prop where
  blk : Blk w bm #[.slice (some ⟨bc, 0, none⟩) ps.length ps.length, .slice (some ⟨bu, 0, none⟩) ps.length ps.length, .slice (some ⟨bw, 0, none⟩) ws.length ws.length] 30
  cls : Blk w bc (cells (ps.map cl)) 3
  row : Blk w bu (urow gs ps) 43
  wrd : Blk w bw (cells ws) 3
  nw : bc ≠ bw
  hn : ps.length ≤ 64
  hw : ws.length = 32 * ps.length
  each : ∀ (k : Nat) (p : PM), ps[k]? = some (some p) → Blk w (gs k) (bcf p.n p.U.testBit) 4 ∧ Cls.csl p.c = (p.n : Int) ∧ p.n ≤ 32 ∧ 0 < p.n ∧ (∀ i, p.U.testBit i = true → i < p.n)
  inj : ∀ (j k : Nat) (p q : PM), ps[j]? = some (some p) → ps[k]? = some (some q) → gs j = gs k → j = k
/-- What the method slot answers. -/
def ans (ps : List (Option PM)) (addr : Int) : Ending :=
  match slot ps addr with
  | none => .returned (.tuple #[.int .i64 0, .int .i64 0, .int .i64 0, .bool false])
  | some (k, _, s) => .returned (.tuple #[.int .i64 k, .int .i64 s, .int .i64 (base ps k s), .bool true])
theorem ans_none {ps : List (Option PM)} {addr : Int} (h : slot ps addr = none) : ans ps addr = .returned (.tuple #[.int .i64 0, .int .i64 0, .int .i64 0, .bool false]) := by unfold ans; rw [h]
theorem slot_low {ps : List (Option PM)} {addr : Int} (h : addr < 1048576) : slot ps addr = none := by unfold slot; rw [if_pos h]
theorem slot_out {ps : List (Option PM)} {addr : Int} (h : get ps ((addr - 1048576) / 32) = none) : slot ps addr = none := by
  unfold slot
  split
  · rfl
  · rw [h]
theorem results_tmp4 {fn : Func} {t u v x : Tmp} (h : fn.results = #[.tmp t, .tmp u, .tmp v, .tmp x]) (tmps : Array Value) (P : Program) (w : World) :
    (results fn tmps).run P w = .ok (.tuple #[tmps.getD t undef, tmps.getD u undef, tmps.getD v undef, tmps.getD x undef]) w := by
  simp [results, h]
theorem slot_m_low (bm bc bu bw : Nat) (gs : Nat → Nat) (ps : List (Option PM)) (ws : List Int) (addr x : Int) (w : World) (h : MdlAt w bm bc bu bw gs ps ws) (hx : wrap64 (addr - 1048576) = x) (hxx : x < 0 ∨ (ws.length : Int) ≤ x) :
    Calls Tryd.prog 11 #[.pointer (some ⟨bm, 0, none⟩), .int .i64 addr] w fun e w' => e = .returned (.tuple #[.int .i64 0, .int .i64 0, .int .i64 0, .bool false]) ∧ Below w.heap.size w w' := by
  obtain ⟨c0, c1, c2, f0, f1, f2⟩ := h.blk.three
  have HX := Lib.hid hx
  have hl : ws.length ≤ 2048 := by have := h.hn; have := h.hw; omega
  clear h hx
  by_cases h0 : x < 0
  · clear hxx
    go_enter Tryd.func11, Tryd.ntmps11
    go_wp2_with (simp only [HX.out])
    (try simp only [Exit.inBlock, Exit.then])
    refine bodyPost_ret (results_tmp4 rfl _ _ _) rfl ?_
    exact ⟨rfl, Below.refl _ _⟩
  · have h1 : (ws.length : Int) ≤ x := by omega
    clear hxx
    go_enter Tryd.func11, Tryd.ntmps11
    go_wp2_with (simp only [HX.out])
    (try simp only [Exit.inBlock, Exit.then])
    refine bodyPost_ret (results_tmp4 rfl _ _ _) rfl ?_
    exact ⟨rfl, Below.refl _ _⟩
theorem slot_m_none (bm bc bu bw : Nat) (gs : Nat → Nat) (ps : List (Option PM)) (ws : List Int) (addr : Int) (i : Nat) (w : World) (h : MdlAt w bm bc bu bw gs ps ws) (hx : addr - 1048576 = (i : Int)) (hi : i < ws.length) (hp : ps[i / 32]? = some none) :
    Calls Tryd.prog 11 #[.pointer (some ⟨bm, 0, none⟩), .int .i64 addr] w fun e w' => e = .returned (.tuple #[.int .i64 0, .int .i64 0, .int .i64 0, .bool false]) ∧ Below w.heap.size w w' := by
  obtain ⟨c0, c1, c2, f0, f1, f2⟩ := h.blk.three
  have hl : ws.length ≤ 2048 := by have := h.hn; have := h.hw; omega
  have hn := h.hn
  have HX := Lib.hid (show wrap64 (addr - 1048576) = (i : Int) by rw [hx]; exact wrap64_id (by omega))
  have hc : w.cell? ⟨bc, i / 32, none⟩ = some (.int .i64 (-1)) := (h.cls.cell _).trans (cls_get hp)
  have h1 : (i : Int) < (ws.length : Int) := by omega
  have h2 : (i : Int) / 32 < (ps.length : Int) := by have := h.hw; omega
  have h3 : (0 : Int) ≤ (i : Int) / 32 := by omega
  clear h hx hp
  go_enter Tryd.func11, Tryd.ntmps11
  go_wp2_with (simp only [HX.out])
  (try simp only [Exit.inBlock, Exit.then])
  refine bodyPost_ret (results_tmp4 rfl _ _ _) rfl ?_
  exact ⟨rfl, Below.refl _ _⟩
theorem div_nat (r z : Nat) : (r : Int) / (z : Int) = ((r / z : Nat) : Int) := rfl
/-- The answer in a page. -/
def inPage (p : PM) (i z s : Nat) : Ending := .returned (if s < p.n ∧ p.U.testBit s = true then .tuple #[.int .i64 (i / 32 : Nat), .int .i64 s, .int .i64 (1048576 + 32 * (i / 32) + s * z : Nat), .bool true] else .tuple #[.int .i64 0, .int .i64 0, .int .i64 0, .bool false])
/-- In a page: the slot of a word, used or not. -/
theorem slot_m_page (bm bc bu bw : Nat) (gs : Nat → Nat) (ps : List (Option PM)) (ws : List Int) (addr : Int) (i z s : Nat) (p : PM) (w : World) (h : MdlAt w bm bc bu bw gs ps ws) (hx : addr - 1048576 = (i : Int)) (hi : i < ws.length) (hp : ps[i / 32]? = some (some p))
    (hz : Cls.csz p.c = (z : Int)) (hz0 : 0 < z) (hz1 : z ≤ 16) (hs : i % 32 / z = s) (hpc : 0 ≤ p.c) :
    Calls Tryd.prog 11 #[.pointer (some ⟨bm, 0, none⟩), .int .i64 addr] w fun e w' =>
      e = inPage p i z s ∧ Below w.heap.size w w' := by
  obtain ⟨c0, c1, c2, f0, f1, f2⟩ := h.blk.three
  have hl : ws.length ≤ 2048 := by have := h.hn; have := h.hw; omega
  have hn := h.hn
  have HX := Lib.hid (show wrap64 (addr - 1048576) = (i : Int) by rw [hx]; exact wrap64_id (by omega))
  obtain ⟨hg, hcl, hpn, hp0, hU⟩ := h.each _ p hp
  have hc : w.cell? ⟨bc, i / 32, none⟩ = some (.int .i64 p.c) := (h.cls.cell _).trans (cls_get hp)
  have hr : w.cell? ⟨bu, i / 32, none⟩ = some (.slice (some ⟨gs (i / 32), 0, none⟩) p.n p.n) := (h.row.cell _).trans (urow_get hp)
  have h1 : (i : Int) < (ws.length : Int) := by omega
  have h2 : (i : Int) / 32 < (ps.length : Int) := by have := h.hw; omega
  have h3 : (0 : Int) ≤ (i : Int) / 32 := by omega
  have hrl := h.row.lt
  have hml := h.blk.lt
  have hgl := hg.lt
  have HZ := Lib.hid hz
  have HS := Lib.hid (show (i : Int) % 32 / (z : Int) = (s : Int) by rw [← hs]; rfl)
  have hs32 : s ≤ 32 := by rw [← hs]; exact Nat.le_trans (Nat.div_le_self _ _) (by omega)
  have HG := Lib.hid hg
  have hz2 : ((z : Int) == 0) = false := by simp; omega
  have hz3 : (0 : Int) ≤ (z : Int) := by omega
  have hz4 : (1 : Int) ≤ (z : Int) := by omega
  have HC := Lib.hid h
  clear h hx hp hz hs hg
  go_enter Tryd.func11, Tryd.ntmps11
  go_wp2_with (simp only [HX.out])
  refine (Cls.rsize_any _ _).mono ?_
  rw [HZ.out]
  rintro e w1 ⟨rfl, hb1⟩
  have HB1 := Lib.hid hb1
  have d1 := (hb1.cell (p := ⟨bm, 1, none⟩) hml).trans c1
  have dr := (hb1.cell (p := ⟨bu, i / 32, none⟩) hrl).trans hr
  have HG1 := Lib.hid (HG.out.call hb1)
  clear hb1
  dsimp only
  go_upto_region 9 with (fail)
  rw [HS.out]
  by_cases hsn : s < p.n
  · have hsI : (s : Int) < (p.n : Int) := by omega
    have hsI0 : (0 : Int) ≤ (s : Int) := by omega
    obtain ⟨cu, fu⟩ := bcf_cell HG1.out hsn
    obtain ⟨t, ht⟩ : ∃ t, p.U.testBit s = t := ⟨_, rfl⟩
    rw [ht] at cu
    have HT := Lib.hid ht
    cases t
    · clear ht HC
      go_wp2_with fail
      (try simp only [Exit.inBlock, Exit.then])
      refine bodyPost_ret (results_tmp4 rfl _ _ _) rfl ?_
      exact ⟨by unfold inPage; rw [if_neg (by rw [HT.out]; simp)]; rfl, HB1.out⟩
    · have hb := slot_bd (s := (s : Int)) (z := (z : Int)) (by omega) (by omega) (by omega) (by omega)
      have HW1 := Lib.hid (show wrap64 ((s : Int) * (z : Int)) = (s : Int) * (z : Int) from wrap64_id (by omega))
      have HW2 := Lib.hid (show wrap64 (1048576 + (i : Int) / 32 * 32 + (s : Int) * (z : Int)) = ((1048576 + 32 * (i / 32) + s * z : Nat) : Int) from by
        rw [wrap64_id (by omega)]
        have e : ((s * z : Nat) : Int) = (s : Int) * (z : Int) := Int.natCast_mul s z
        rw [← e]
        generalize s * z = q
        omega)
      obtain ⟨Q, hQ⟩ : ∃ Q : Int, ((1048576 + 32 * (i / 32) + s * z : Nat) : Int) = Q := ⟨_, rfl⟩
      have HQ := Lib.hid hQ
      rw [hQ] at HW2
      clear ht HC hb hQ
      go_wp2_with (first | simp only [HW1.out] | simp only [HW2.out])
      (try simp only [Exit.inBlock, Exit.then])
      refine bodyPost_ret (results_tmp4 rfl _ _ _) rfl ?_
      exact ⟨by unfold inPage; rw [if_pos ⟨hsn, HT.out⟩, HQ.out]; rfl, HB1.out⟩
  · have hsI : (p.n : Int) ≤ (s : Int) := by omega
    clear HC
    go_wp2_with fail
    (try simp only [Exit.inBlock, Exit.then])
    refine bodyPost_ret (results_tmp4 rfl _ _ _) rfl ?_
    exact ⟨by unfold inPage; rw [if_neg (fun h => hsn h.1)]; rfl, HB1.out⟩
theorem slot_is {ps : List (Option PM)} {addr : Int} {i z s : Nat} {p : PM} (hx : addr - 1048576 = (i : Int)) (hp : ps[i / 32]? = some (some p)) (hcl : Cls.csl p.c = (p.n : Int)) (hz : Cls.csz p.c = (z : Int)) (hz0 : 0 < z) (hs : i % 32 / z = s) :
    slot ps addr = if s < p.n ∧ p.U.testBit s = true then some (i / 32, p, s) else none := by
  have hg : get ps ((i : Int) / 32) = some p := by
    have := get_nat ps (i / 32)
    rw [hp] at this
    exact this
  have e1 : (i : Int) % 32 = ((i % 32 : Nat) : Int) := rfl
  have e2 : ((i % 32 : Nat) : Int) / (z : Int) = (s : Int) := by rw [← hs]; rfl
  have e3 : (((i % 32 : Nat) : Int) < (p.n : Int) * (z : Int)) ↔ s < p.n := by
    rw [← Int.natCast_mul, Int.ofNat_lt, ← hs, Nat.div_lt_iff_lt_mul hz0]
  unfold slot
  rw [if_neg (by omega), hx, hg]
  dsimp only
  rw [e1, hcl, hz, e2, at_nat]
  by_cases h : s < p.n ∧ p.U.testBit s = true
  · rw [if_pos ⟨e3.2 h.1, h.2⟩, if_pos h]
    rfl
  · rw [if_neg (fun h' => h ⟨e3.1 h'.1, h'.2⟩), if_neg h]
theorem slot_m_any (bm bc bu bw : Nat) (gs : Nat → Nat) (ps : List (Option PM)) (ws : List Int) (addr : Int) (w : World) (h : MdlAt w bm bc bu bw gs ps ws) (ha : -9223372036854775808 ≤ addr ∧ addr ≤ 9223372036854775807) :
    Calls Tryd.prog 11 #[.pointer (some ⟨bm, 0, none⟩), .int .i64 addr] w fun e w' => e = ans ps addr ∧ Below w.heap.size w w' := by
  have hl : ws.length ≤ 2048 := by have := h.hn; have := h.hw; omega
  have hw := h.hw
  by_cases h0 : addr < 1048576
  · rw [ans_none (slot_low h0)]
    refine slot_m_low bm bc bu bw gs ps ws addr _ w h rfl ?_
    unfold wrap64
    omega
  · obtain ⟨i, hi⟩ : ∃ i : Nat, addr - 1048576 = i := ⟨(addr - 1048576).toNat, by omega⟩
    by_cases h1 : i < ws.length
    · have hk : i / 32 < ps.length := by omega
      obtain ⟨p, hp⟩ : ∃ p, ps[i / 32]? = some p := ⟨_, List.getElem?_eq_getElem hk⟩
      have hg : get ps ((addr - 1048576) / 32) = p := by
        rw [hi]
        have := get_nat ps (i / 32)
        rw [hp] at this
        exact this
      cases p with
      | none =>
        rw [ans_none (slot_out hg)]
        exact slot_m_none bm bc bu bw gs ps ws addr i w h hi h1 hp
      | some p =>
        obtain ⟨_, hcl, hpn, hp0, hU⟩ := h.each _ p hp
        have hzb := Cls.csz_bd p.c
        by_cases hz0 : 0 < Cls.csz p.c
        · obtain ⟨z, hz⟩ : ∃ z : Nat, Cls.csz p.c = (z : Int) := ⟨(Cls.csz p.c).toNat, by omega⟩
          have hpc : 0 ≤ p.c := by
            rcases Int.lt_or_le p.c 0 with h2 | h2
            · rw [Cls.csz_out (.inl h2)] at hz0; omega
            · exact h2
          refine (slot_m_page bm bc bu bw gs ps ws addr i z _ p w h hi h1 hp hz (by omega) (by omega) rfl hpc).mono ?_
          rintro e w' ⟨rfl, hb⟩
          refine ⟨?_, hb⟩
          unfold ans inPage
          rw [slot_is hi hp hcl hz (by omega) rfl]
          by_cases hc : i % 32 / z < p.n ∧ p.U.testBit (i % 32 / z) = true
          · rw [if_pos hc, if_pos hc]
            dsimp only
            have hg2 : get ps ((i / 32 : Nat) : Int) = some p := by rw [get_nat, hp]; rfl
            rw [base_some hg2, if_pos ⟨Int.natCast_nonneg _, Int.ofNat_lt.2 hc.1⟩, hz, ← cast3]
          · rw [if_neg hc, if_neg hc]
        · exfalso
          rcases Cls.csz_cases p.c with h2 | h2 | h2 | h2 | h2 | h2 | h2 | h2 | h2 | h2
          · rw [Cls.csl_out (.inl h2)] at hcl; omega
          · rw [Cls.csl_out (.inr h2)] at hcl; omega
          all_goals (rw [h2] at hz0; exact hz0 (by decide))
    · rw [ans_none (slot_out (by
        rw [hi]
        have := get_nat ps (i / 32)
        rw [List.getElem?_eq_none (by omega)] at this
        exact this))]
      refine slot_m_low bm bc bu bw gs ps ws addr (i : Int) w h ?_ (.inr (by omega))
      rw [hi]
      exact wrap64_id (by omega)
end Go.Proofs.YtfgpadkoonogpaaDoor.Ar
