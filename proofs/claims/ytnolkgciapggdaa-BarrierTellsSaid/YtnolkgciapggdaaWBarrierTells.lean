/- The walk of besomlaw18.BarrierTells: it returns true, and writes nothing that was there. -/
import Derived.Test.YtnolkgciapggdaaBarT
import Derived.Test.YtnolkgciapggdaaExt
import Derived.Test.YtnolkgciapggdaaShpL
import Derived.Deep.CutBlock
import Derived.Deep.Cut
import Derived.Deep.CutRange
import Derived.Deep.RegionLaw
import Derived.Deep.QuietTactic
import Derived.BigQuiet
namespace Go.Proofs.Ytnolkgciapggdaa.BarrierTells
open Go.RowKit Bar Book
set_option linter.unusedSimpArgs false
set_option linter.unusedVariables false

/-- A list of the call's own, behind z. -/
def Own1 (w : World) (z : Nat) (v : Value) (l : List Int) : Prop := ∃ a c, v = .slice a l.length c ∧ w.ownsRow z 3 1 (.slice a l.length c) l.length (l.map (.int .i64))
/-- What is wanted of a new task's arguments. -/
def ofs (ph : Int) (fn : Int) (nF : Nat) (ks as_ : List Int) : List Int := if ph = 1 ∧ 0 ≤ fn ∧ fn < (nF : Int) then sh ks as_ ks.length else []
theorem ofs_in {fn : Int} {nF : Nat} {ks as_ : List Int} (h : 0 ≤ fn ∧ fn < (nF : Int)) : ofs 1 fn nF ks as_ = sh ks as_ ks.length := by unfold ofs; exact if_pos ⟨rfl, h⟩
theorem sh_end {ks as_ : List Int} {k : Nat} (h : k = ks.length ∨ (k = as_.length ∧ k ≤ ks.length)) : sh ks as_ ks.length = sh ks as_ k := by
  rcases h with rfl | ⟨rfl, h⟩
  · rfl
  · rw [sh_min, Nat.min_eq_right h]
theorem store_lw (ph o n : Int) (bl : Bool) : Bar.store ph bl o n = if ph = 1 then wants bl o n else [] := by
  by_cases h : ph = 1
  · subst h; rw [if_pos rfl]; exact store_wants bl o n
  · rw [if_neg h]; exact store_idle_is h
theorem args_of (ph fn : Int) (u0 u1 : Value) (FA : Option Addr) (nF cF : Nat) (ks as_ : List Int) (A : Option Addr) (n c B : Nat) (w W : World) (hm : nF ≤ 9223372036854775807)
    (hks : 0 ≤ fn ∧ fn < (nF : Int) → ∃ (b off : Nat) (KA : Option Addr) (nK cK : Nat), FA = some ⟨b, off, none⟩ ∧ b < w.heap.size ∧ w.cell? ⟨b, off + fn.toNat * 5, none⟩ = some (.slice KA nK cK) ∧ ks.length = nK ∧ Reads w w.heap.size 1 KA nK cK (ks.map (.int .i64)))
    (hw : Below w.heap.size w W) (hA : RI W B A n c as_) (hB : B ≤ W.heap.size) (hn : n ≤ 1000000) (wa : ∀ z ∈ as_, (Lit.int .i64 z).wf = true) :
    Calls Try.prog 31 #[.int .i64 ph, .agg #[u0, u1, .slice FA nF cF], .int .i64 fn, .slice A n c] W (Gives (ofs ph fn nF ks as_) W) := by
  by_cases h : ph = 1 ∧ 0 ≤ fn ∧ fn < (nF : Int)
  · obtain ⟨rfl, h⟩ := h
    obtain ⟨b, off, KA, nK, cK, rfl, hb, hc, hl, hR⟩ := hks h
    rw [ofs_in h]
    obtain ⟨f, rfl⟩ : ∃ f : Nat, fn = (f : Int) := ⟨fn.toNat, by omega⟩
    have hz := hw.size
    exact args_mark f u0 u1 b off nF cF KA nK cK ks A n c as_ W hm (by omega) (by omega) ((hw.cell (p := ⟨b, off + f * 5, none⟩) hb).trans (by simpa using hc)) hl ((hR.below hw).more hz) hA.1 hn wa (hA.2.more hB)
  · have e : ofs ph fn nF ks as_ = [] := by unfold ofs; exact if_neg h
    rw [e]
    refine args_idle _ _ _ _ _ _ _ _ _ _ _ hm ?_
    by_cases h1 : ph = 1
    · by_cases h2 : fn < 0
      · exact .inr (.inl h2)
      · exact .inr (.inr (Int.not_lt.1 fun h3 => h ⟨h1, by omega, h3⟩))
    · exact .inl (by simpa using h1)
/-- Three lists, all behind z, each in memory of its own. -/
structure Trio (w0 w : World) (v1 v2 v3 : Value) (n1 n2 n3 : Nat) (x1 x2 x3 : List Value) : Prop where
  o1 : w.ownsRow w0.heap.size 3 1 v1 n1 x1
  o2 : w.ownsRow w0.heap.size 3 1 v2 n2 x2
  o3 : w.ownsRow w0.heap.size 3 1 v3 n3 x3
  d12 : ∀ k, v1.ownBlock = some k → v2.ownBlock ≠ some k
  d13 : ∀ k, v1.ownBlock = some k → v3.ownBlock ≠ some k
  d23 : ∀ k, v2.ownBlock = some k → v3.ownBlock ≠ some k
  bel : Below w0.heap.size w0 w
theorem trio {w w1 w2 w3 : World} {v1 v2 v3 : Value} {n1 n2 n3 : Nat} {x1 x2 x3 : List Value} (h1 : w1.ownsRow w.heap.size 3 1 v1 n1 x1) (b1 : Below w.heap.size w w1)
    (h2 : w2.ownsRow w1.heap.size 3 1 v2 n2 x2) (b2 : Below w1.heap.size w1 w2) (h3 : w3.ownsRow w2.heap.size 3 1 v3 n3 x3) (b3 : Below w2.heap.size w2 w3) : Trio w w3 v1 v2 v3 n1 n2 n3 x1 x2 x3 := by
  have s1 := b1.size
  have s2 := b2.size
  have s3 := b3.size
  have h1' := own_block h1 fun q e => b2.block q (h1.lt q e).2
  refine ⟨own_block h1' fun q e => b3.block q (h1'.lt q e).2, own_block (own_base h2 s1) fun q e => b3.block q (h2.lt q e).2, own_base h3 (by omega), ?_, ?_, ?_, fresh_call (fresh_call b1 b2) b3⟩
  · intro k e e'
    have := (h1.lt k e).2; have := (h2.lt k e').1; omega
  · intro k e e'
    have := (h1.lt k e).2; have := (h3.lt k e').1; omega
  · intro k e e'
    have := (h2.lt k e).2; have := (h3.lt k e').1; omega
theorem ne_sym {u v : Value} (h : ∀ k, u.ownBlock = some k → v.ownBlock ≠ some k) : ∀ k, v.ownBlock = some k → u.ownBlock ≠ some k := fun k e e' => h k e' e
section
variable {w0 w : World} {v1 v2 v3 : Value} {n1 n2 n3 : Nat} {x1 x2 x3 : List Value}
theorem Trio.s12 (h : Trio w0 w v1 v2 v3 n1 n2 n3 x1 x2 x3) : Trio w0 w v2 v1 v3 n2 n1 n3 x2 x1 x3 := ⟨h.o2, h.o1, h.o3, ne_sym h.d12, h.d23, h.d13, h.bel⟩
theorem Trio.s23 (h : Trio w0 w v1 v2 v3 n1 n2 n3 x1 x2 x3) : Trio w0 w v1 v3 v2 n1 n3 n2 x1 x3 x2 := ⟨h.o1, h.o3, h.o2, h.d13, h.d12, ne_sym h.d23, h.bel⟩
theorem Trio.undrew (h : Trio w0.drew w v1 v2 v3 n1 n2 n3 x1 x2 x3) : Trio w0 w v1 v2 v3 n1 n2 n3 x1 x2 x3 := ⟨h.o1, h.o2, h.o3, h.d12, h.d13, h.d23, below_drew1 h.bel⟩
end
set_option maxRecDepth 100000 in
set_option maxHeartbeats 8000000 in
theorem core (ph : Int) (bl : Bool) (o nw : Int) (GA : Option Addr) (nG cG : Nat) (SA : Option Addr) (nS cS : Nat) (FA : Option Addr) (nF cF : Nat) (fn : Int) (A : Option Addr) (m c : Nat) (as_ : List Int) (w : World)
    (hG : nG ≤ maxLen) (hS : Prg.Shapes w SA nS cS) (hF : Prg.Funcs w FA nF cF) (wo : (Lit.int .i64 o).wf = true) (wn : (Lit.int .i64 nw).wf = true) (hl : as_.length = m) (wl : ∀ x ∈ as_, (Lit.int .i64 x).wf = true) (hR : Reads w w.heap.size 1 A m c (as_.map (.int .i64))) :
    Calls Try.prog 10 #[.int .i64 ph, .bool bl, .int .i64 o, .int .i64 nw, .agg #[.slice GA nG cG, .slice SA nS cS, .slice FA nF cF], .int .i64 fn, .slice A m c] w fun e w' => e = .returned (.bool true) ∧ Below w.heap.size w w' := by
  have HF := Lib.hid hF
  have HR := Lib.hid hR
  have HL := Lib.hid hl
  have WL := Lib.hid wl
  have WO := Lib.hid wo
  have WN := Lib.hid wn
  have HGM := Lib.hid hG
  have HSH := Lib.hid hS
  have hfm : nF ≤ 9223372036854775807 := by have := hF.le; have := hF.mx; unfold maxLen at this; omega
  have hmm : m ≤ 9223372036854775807 := by have := hR.1; have := hR.2.1; unfold maxLen at this; omega
  clear hF hR hl wl wo wn hG hS
  go_enter Try.func10, Try.ntmps10
  have HB0 := Lib.hid (Blk.new w #[.slice GA nG cG, .slice SA nS cS, .slice FA nF cF] 53)
  have hbe := (Below.refl w.heap.size w).alloc (Nat.le_refl _) (.cells #[.slice GA nG cG, .slice SA nS cS, .slice FA nF cF] 53)
  have HBE := Lib.hid hbe
  have HSM := Lib.hid (Prg.small_any GA nG cG SA nS cS FA nF cF (w.alloc (.cells #[.slice GA nG cG, .slice SA nS cS, .slice FA nF cF] 53)) HGM.out ⟨HSH.out.le, HSH.out.mx, fun i hi => by
      obtain ⟨b, off, A, n, c, h1, h2, h3, h4⟩ := HSH.out.each i hi
      exact ⟨b, off, A, n, c, h1, by simp; omega, (hbe.cell (p := ⟨b, off + i, none⟩) h2).trans h3, h4⟩⟩ ⟨HF.out.le, HF.out.mx, fun i hi => by
      obtain ⟨b, off, KA, nK, cK, ks, r, s, OA, nO, cO, CA, nC, cC, h1, h2, e0, e1, e2, e3, e4, h5, h6, h7, h8⟩ := HF.out.each i hi
      exact ⟨b, off, KA, nK, cK, ks, r, s, OA, nO, cO, CA, nC, cC, h1, by simp; omega, (hbe.cell (p := ⟨b, off + i * 5, none⟩) h2).trans e0, (hbe.cell (p := ⟨b, off + i * 5 + 1, none⟩) h2).trans e1, (hbe.cell (p := ⟨b, off + i * 5 + 2, none⟩) h2).trans e2, (hbe.cell (p := ⟨b, off + i * 5 + 3, none⟩) h2).trans e3, (hbe.cell (p := ⟨b, off + i * 5 + 4, none⟩) h2).trans e4, h5, by have := h6.below hbe; exact ⟨this.1, this.2.1, this.2.2.1, fun h0 => by obtain ⟨b', off', q1, q2, q3⟩ := this.2.2.2 h0; exact ⟨b', off', q1, by simp; omega, q3⟩⟩, h7, h8⟩⟩)
  clear hbe HGM HSH
  obtain ⟨ks, hks⟩ : ∃ ks : List Int, 0 ≤ fn ∧ fn < (nF : Int) → ∃ (b off : Nat) (KA : Option Addr) (nK cK : Nat), FA = some ⟨b, off, none⟩ ∧ b < w.heap.size ∧ w.cell? ⟨b, off + fn.toNat * 5, none⟩ = some (.slice KA nK cK) ∧ ks.length = nK ∧ Reads w w.heap.size 1 KA nK cK (ks.map (.int .i64)) := by
    by_cases h : 0 ≤ fn ∧ fn < (nF : Int)
    · obtain ⟨b, off, KA, nK, cK, ks, r, s, OA, nO, cO, CA, nC, cC, h1, h2, e0, e1, e2, e3, e4, h5, h6, h7, h8⟩ := HF.out.each fn.toNat (by omega)
      exact ⟨ks, fun _ => ⟨b, off, KA, nK, cK, h1, h2, e0, h5, h6⟩⟩
    · exact ⟨[], fun h' => absurd h' h⟩
  have HKS := Lib.hid hks
  clear hks HF
  go_wp2_with fail
  refine HSM.out.mono ?_
  rintro e w1 ⟨⟨sm, rfl⟩, hb1⟩
  have HB1 := Lib.hid (HB0.out.call hb1)
  have HE1 := Lib.hid (fresh_call HBE.out hb1)
  clear hb1 HSM HB0 HBE
  cases sm
  · dsimp only
    go_wp2_with fail
    refine (alive _).mono ?_
    rintro e w2 ⟨rfl, hb2⟩
    dsimp only
    go_wp2_with fail
    go_ret
    exact ⟨rfl, fresh_call HE1.out hb2⟩
  by_cases hm40 : 40 < m
  · have h40 : (40 : Int) < (m : Int) := by omega
    dsimp only
    go_wp2_with fail
    refine (alive _).mono ?_
    rintro e w2 ⟨rfl, hb2⟩
    dsimp only
    go_wp2_with fail
    go_ret
    exact ⟨rfl, fresh_call HE1.out hb2⟩
  have h40 : (m : Int) ≤ 40 := by omega
  dsimp only
  go_wp2_with fail
  refine (alive _).mono ?_
  rintro e w2 ⟨rfl, hb2⟩
  have HE2 := Lib.hid (fresh_call HE1.out hb2)
  have HB2 := Lib.hid (HB1.out.call hb2)
  obtain ⟨bp, hbp⟩ : ∃ bp, w.heap.size = bp := ⟨_, rfl⟩
  rw [hbp] at HB2
  clear hb2 HB1 HE1
  have HI := Lib.hid (info_parts Book.infoI)
  dsimp only
  go_upto_if 39 with (fail)
  go_cut [15, 16, 17, 18, 19] from 38 to 132 (fun wa fa _ _ _ wx => Own1 wx w2.heap.size wa (if ph = 1 then wants bl o nw else []) ∧ Own1 wx w2.heap.size fa (ofs ph fn nF ks as_) ∧ Below w2.heap.size w2 wx)
  case first =>
    by_cases h1 : ph = 1
    · subst h1
      go_upto_if 41 with (fail)
      go_cut [15] from 40 to 45 (fun wa wx => Own1 wx w2.heap.size wa (if o ≠ 0 then [o] else []) ∧ Below w2.heap.size w2 wx)
      case first =>
        by_cases ho : o = 0
        · subst ho
          go_wp2_with fail
          go_meet
          exact ⟨⟨none, 0, rfl, World.ownsRow_nil _ _ _ _⟩, Below.refl _ _⟩
        · have hx : (o == 0) = false := by simpa using ho
          have hy : (o != 0) = true := by simpa using ho
          have HON := Lib.hid (World.ownsRow_nil w2 w2.heap.size 3 1)
          go_wp2_with (first
            | (at_builtin; go_loud (refine wpList_app _ rfl _ _ 23 rfl w2.heap.size 3 HI.out.choose (.int .i64 0) 1 8 Try.underlying23 HI.out.choose_spec.1 HI.out.choose_spec.2.1 HI.out.choose_spec.2.2.1 HI.out.choose_spec.2.2.2 rfl (by decide) _ _ _ rfl (HON.out.alloc _) (w2.heap.size + 1) _ 1 1 [.int .i64 o] rfl (Blk.reads (Blk.new w2 _ _) (by simp) rfl rfl (by decide)) ?a1 ?a2 ?a3 ?a4 ?_))
            | fail)
          case a1 => first | (intro u hu; simp at hu; subst hu; rfl) | rfl
          try (case a2 => first | (unfold maxLen; omega) | simp [maxLen])
          try (case a3 => first | omega | simp)
          try (case a4 => simp <;> omega)
          intro a' c' w3 ho3 hg3 hat3
          have HO3 := Lib.hid (show Own1 w3 w2.heap.size (.slice a' 1 c') [o] from ⟨a', c', rfl, by simpa using ho3⟩)
          have HW3 := Lib.hid (show Below w2.heap.size w2 w3 from (fresh_alloc (Below.refl _ _) _).grown hg3 (by simp) (fun k hk => (HON.out.lt k hk).1))
          clear ho3 hg3 hat3
          go_wp2_with fail
          go_meet
          exact ⟨by rw [if_pos ho]; exact HO3.out, HW3.out⟩
      case rest =>
        obtain ⟨⟨A1, C1, rfl, how1⟩, hb1⟩ := hcut
        have HO1 := Lib.hid how1
        have HW1 := Lib.hid hb1
        have hz1 := hb1.size
        have hl1 : (if o ≠ 0 then [o] else []).length ≤ 1 := by split <;> simp
        clear how1 hb1
        obtain ⟨L1, hL1⟩ : ∃ L1, (if o ≠ 0 then [o] else []) = L1 := ⟨_, rfl⟩
        rw [hL1] at HO1 hl1
        simp only [hL1]
        have HL1 := Lib.hid hL1
        clear hL1
        obtain ⟨w3, rfl⟩ : ∃ w3 : World, w3 = wc := ⟨_, rfl⟩
        go_upto_region 7 with (fail)
        go_cut [56] from 46 to 55 (fun p wx => p = .bool (decide (nw ≠ 0 ∧ bl = false ∧ nw ≠ o)) ∧ wx = w3)
        case first =>
          by_cases e1 : nw = 0
          · subst e1
            go_wp2_with fail
            go_meet
            exact ⟨by simp, rfl⟩
          · have e1x : (nw != 0) = true := by simpa using e1
            have e1y : (nw == 0) = false := by simpa using e1
            cases bl
            · have HE1 := Lib.hid e1
              clear e1
              by_cases e2 : nw = o
              · subst e2
                go_wp2_with fail
                go_meet
                exact ⟨by simp, rfl⟩
              · have e2x : (nw != o) = true := by simpa using e2
                have e2y : (nw == o) = false := by simpa using e2
                have HE2' := Lib.hid e2
                clear e2
                go_wp2_with fail
                go_meet
                exact ⟨by simp [HE1.out, HE2'.out], rfl⟩
            · have HE1 := Lib.hid e1
              clear e1
              go_wp2_with fail
              go_meet
              exact ⟨by simp, rfl⟩
        case rest =>
        obtain ⟨hp, rfl⟩ := hcut
        subst hp
        have HWNT := Lib.hid (show wants bl o nw = L1 ++ (if nw ≠ 0 ∧ bl = false ∧ nw ≠ o then [nw] else []) by rw [← HL1.out]; rfl)
        obtain ⟨w3, rfl⟩ : ∃ w3 : World, w3 = wc := ⟨_, rfl⟩
        go_upto_if 56 with (fail)
        go_cut [15] from 56 to 60 (fun wa wx => Own1 wx w2.heap.size wa (wants bl o nw) ∧ Below w2.heap.size w2 wx)
        case first =>
          by_cases hg : nw ≠ 0 ∧ bl = false ∧ nw ≠ o
          · have hd : decide (nw ≠ 0 ∧ bl = false ∧ nw ≠ o) = true := by simpa using hg
            rw [hd]
            have HW' := Lib.hid (HWNT.out.trans (by rw [if_pos hg]))
            clear hg hd HWNT
            go_wp2_with (first
              | (at_builtin; go_loud (refine wpList_app _ rfl _ _ 23 rfl w2.heap.size 3 HI.out.choose (.int .i64 0) 1 8 Try.underlying23 HI.out.choose_spec.1 HI.out.choose_spec.2.1 HI.out.choose_spec.2.2.1 HI.out.choose_spec.2.2.2 rfl (by decide) _ _ _ rfl (HO1.out.alloc _) (w3.heap.size + 1) _ 1 1 [.int .i64 nw] rfl (Blk.reads (Blk.new w3 _ _) (by simp) rfl rfl (by decide)) ?b1 ?b2 ?b3 ?b4 ?_))
              | fail)
            case b1 => first | (intro u hu; simp at hu; subst hu; rfl) | rfl
            try (case b2 => first | (unfold maxLen; omega) | simp [maxLen])
            try (case b3 => first | omega | simp)
            try (case b4 => first | exact Nat.le_succ_of_le hz1 | (simp; omega) | simp | omega)
            intro a' c' w4 ho4 hg4 hat4
            have HO4 := Lib.hid (show Own1 w4 w2.heap.size (.slice a' (L1.length + 1) c') (L1 ++ [nw]) from ⟨a', c', by simp, by simpa using ho4⟩)
            have HW4 := Lib.hid (show Below w2.heap.size w2 w4 from (fresh_alloc HW1.out _).grown hg4 (by simp; omega) (fun k hk => (HO1.out.lt k hk).1))
            clear ho4 hg4 hat4
            go_wp2_with fail
            go_meet
            exact ⟨by rw [HW'.out]; exact HO4.out, HW4.out⟩
          · have hd : decide (nw ≠ 0 ∧ bl = false ∧ nw ≠ o) = false := by simpa using hg
            rw [hd]
            have HW' := Lib.hid (HWNT.out.trans (by rw [if_neg hg, List.append_nil]))
            clear hg hd HWNT
            go_wp2_with fail
            go_meet
            exact ⟨⟨A1, C1, by rw [HW'.out], by rw [HW'.out]; exact HO1.out⟩, HW1.out⟩
        case rest =>
          clear HL1 HWNT HO1 HW1 hz1 hl1
          obtain ⟨⟨A1, C1, rfl, how1⟩, hb1⟩ := hcut
          have HO1 := Lib.hid how1
          have HW1 := Lib.hid hb1
          have hz1 := hb1.size
          have HB3 := Lib.hid (HB2.out.call hb1)
          have HE3 := Lib.hid (fresh_call HE2.out hb1)
          clear how1 hb1 HB2
          obtain ⟨w4, rfl⟩ : ∃ w4 : World, w4 = wc := ⟨_, rfl⟩
          by_cases hfn : 0 ≤ fn ∧ fn < (nF : Int)
          · obtain ⟨b, off, KA, nK, cK, rfl, hbs, hcell, hlen, hRk⟩ := HKS.out hfn
            obtain ⟨f, rfl⟩ : ∃ f : Nat, fn = (f : Int) := ⟨fn.toNat, by omega⟩
            have f0 : (0 : Int) ≤ (f : Int) := by omega
            have f1 : (f : Int) < (nF : Int) := hfn.2
            have hd1 : decide ((f : Int) < (nF : Int)) = true := by simpa using f1
            have hd2 : decide (0 ≤ (f : Int)) = true := by simp
            have hz3 := HE3.out.size
            have hbs4 : b < w4.heap.size := by omega
            have hcell4 : w4.cell? ⟨b, off + f * 5, none⟩ = some (.slice KA nK cK) := (HE3.out.cell (p := ⟨b, off + f * 5, none⟩) hbs).trans (by simpa using hcell)
            have hKm : nK ≤ 9223372036854775807 := by have := hRk.1; have := hRk.2.1; unfold maxLen at this; omega
            have HRK := Lib.hid (hRk.below HE3.out)
            have HRA := Lib.hid (HR.out.below HE3.out)
            have HLK := Lib.hid hlen
            have hCC := Lib.hid hcell4
            obtain ⟨b0, b1, b2, b3, b4, b5⟩ := HB3.out.three
            clear hfn hcell hRk hlen HKS
            go_wp2_with fail
            clear b0 b1 b2 b3 b4 b5 hcell4
            go_loopw [16, 17, 18, 19] (fun ov kv _ _ wr => ∃ (k : Nat) (a : Option Addr) (c' : Nat), k ≤ m ∧ k ≤ nK ∧ ov = .slice a (sh ks as_ k).length c' ∧ kv = .int .i64 (k : Int) ∧ wr.ownsRow w4.heap.size 3 1 (.slice a (sh ks as_ k).length c') (sh ks as_ k).length ((sh ks as_ k).map (.int .i64)) ∧ Below w4.heap.size w4 wr) (fun _ kv _ _ _ => m - (intOf kv).toNat)
            case atStart => exact ⟨0, none, 0, Nat.zero_le _, Nat.zero_le _, rfl, rfl, World.ownsRow_nil _ _ _ _, Below.refl _ _⟩
            case round =>
              obtain ⟨k, a, c', hk1, hk2, rfl, rfl, hro, hrb⟩ := hrel
              have HRO := Lib.hid hro
              have HRB := Lib.hid hrb
              have hz5 := hrb.size
              have hbs5 : b < wr.heap.size := by omega
              have hcell5 : wr.cell? ⟨b, off + f * 5, none⟩ = some (.slice KA nK cK) := (hrb.cell (p := ⟨b, off + f * 5, none⟩) hbs4).trans hCC.out
              obtain ⟨b0, b1, b2, b3, b4, b5⟩ := (HB3.out.call hrb).three
              have hsl := sh_len ks as_ k
              rw [HL.out] at hsl
              obtain ⟨L, hLL⟩ : ∃ L, sh ks as_ k = L := ⟨_, rfl⟩
              rw [hLL] at HRO hsl ⊢
              have HLL := Lib.hid hLL
              clear hro hrb hLL
              obtain ⟨wo, rfl⟩ : ∃ wo : World, wo = wr := ⟨_, rfl⟩
              by_cases hkm : k < m
              · have h3 : (k : Int) < (m : Int) := by omega
                by_cases hkK : k < nK
                · have h4 : (k : Int) < (nK : Int) := by omega
                  obtain ⟨x, hx⟩ : ∃ x, as_[k]? = some x := ⟨_, List.getElem?_eq_getElem (by rw [HL.out]; exact hkm)⟩
                  obtain ⟨y, hy⟩ : ∃ y, ks[k]? = some y := ⟨_, List.getElem?_eq_getElem (by rw [HLK.out]; exact hkK)⟩
                  obtain ⟨xb, xo, rfl, hxb, hxc⟩ := ((HRA.out.more hz3).below HRB.out).at_ (j := k) (u := .int .i64 x) (by simp [hx])
                  obtain ⟨yb, yo, rfl, hyb, hyc⟩ := ((HRK.out.more hz3).below HRB.out).at_ (j := k) (u := .int .i64 y) (by simp [hy])
                  have HX := Lib.hid hx
                  have HY := Lib.hid hy
                  have hxb5 : xb < wo.heap.size := by omega
                  have hyb5 : yb < wo.heap.size := by omega
                  have k0 : (0 : Int) ≤ (k : Int) := by omega
                  clear hx hy
                  go_wp2_with fail
                  go_loopw [18, 19] (fun sv jv wr => ∃ j : Nat, j ≤ L.length ∧ jv = .int .i64 (j : Int) ∧ sv = .bool (decide (x = 0 ∨ x ∈ L.take j)) ∧ ∃ d, wr = wo.drewN d) (fun _ jv _ => L.length - (intOf jv).toNat)
                  case atStart => exact ⟨0, Nat.zero_le _, rfl, by rw [show (x == 0) = decide (x = 0 ∨ x ∈ L.take 0) by rw [Bool.eq_iff_iff]; simp], 0, rfl⟩
                  case round =>
                    obtain ⟨j, hj, rfl, rfl, d, rfl⟩ := hrel
                    have j0 : (0 : Int) ≤ (j : Int) := by omega
                    by_cases hjl : j < L.length
                    · have j1 : (j : Int) < (L.length : Int) := by omega
                      obtain ⟨z, hz⟩ : ∃ z, L[j]? = some z := ⟨_, List.getElem?_eq_getElem hjl⟩
                      obtain ⟨zb, zo, rfl, hzb, hzc⟩ := (Reads.of_own HRO.out).at_ (j := j) (u := .int .i64 z) (by simp [hz])
                      have htk : L.take (j + 1) = L.take j ++ [z] := by
                        rw [List.take_add_one, hz]; rfl
                      have HTK := Lib.hid htk
                      clear hz htk
                      by_cases hs : x = 0 ∨ x ∈ L.take j
                      · have hd : decide (x = 0 ∨ x ∈ L.take j) = true := by simpa using hs
                        have HS' := Lib.hid (show decide (x = 0 ∨ x ∈ L.take (j + 1)) = true by
                          rw [HTK.out]; simp; rcases hs with h | h
                          · exact .inl h
                          · exact .inr (.inl h))
                        rw [hd]
                        clear hs hd
                        go_wp2_with fail
                        go_quiet (fail)
                        go_wp2_with fail
                        go_roundw
                        case rel => exact ⟨j + 1, by omega, by go_num, by rw [HS'.out], _, rfl⟩
                        case measure => simp [intOf]; omega
                      · have hd : decide (x = 0 ∨ x ∈ L.take j) = false := by simpa using hs
                        have HS' := Lib.hid (show decide (x = 0 ∨ x ∈ L.take (j + 1)) = (z == x) by
                          rw [HTK.out]
                          have h0 : ¬ x = 0 := fun h => hs (.inl h)
                          have h1 : ¬ x ∈ L.take j := fun h => hs (.inr h)
                          by_cases h2 : z = x
                          · simp [h2]
                          · have h3 : ¬ x = z := fun h => h2 h.symm
                            simp [h0, h1, h2, h3])
                        rw [hd]
                        clear hs hd
                        go_wp2_with fail
                        go_quiet (fail)
                        go_wp2_with fail
                        go_roundw
                        case rel => exact ⟨j + 1, by omega, by go_num, by rw [HS'.out], _, rfl⟩
                        case measure => simp [intOf]; omega
                    · have j1 : ¬ (j : Int) < (L.length : Int) := by omega
                      have hje : j = L.length := by omega
                      subst hje
                      rw [List.take_length]
                      by_cases hs : x = 0 ∨ x ∈ L
                      · have hd : decide (x = 0 ∨ x ∈ L) = true := by simpa using hs
                        rw [hd]
                        have HSH := Lib.hid (show sh ks as_ (k + 1) = L by
                          by_cases hp : 16 ≤ y ∧ y < 32
                          · rw [sh_yes HY.out HX.out hp, HLL.out]; unfold padd; exact if_pos hs
                          · rw [sh_no HY.out hp, HLL.out])
                        clear hs hd
                        go_wp2_with fail
                        go_roundw
                        case rel => exact ⟨k + 1, a, c', by omega, by omega, by rw [HSH.out], by go_num, by rw [HSH.out]; exact HRO.out, below_drewN HRB.out d⟩
                        case measure => simp [intOf]; omega
                      · have hd : decide (x = 0 ∨ x ∈ L) = false := by simpa using hs
                        rw [hd]
                        go_wp2_with fail
                        refine (isptr_any y _).mono ?_
                        rintro e w5 ⟨rfl, rfl⟩
                        by_cases hp : 16 ≤ y ∧ y < 32
                        · rw [show decide (16 ≤ y ∧ y < 32) = true by simpa using hp]
                          have HSH := Lib.hid (show sh ks as_ (k + 1) = L ++ [x] by
                            rw [sh_yes HY.out HX.out hp, HLL.out]; unfold padd; exact if_neg hs)
                          clear hs hd hp
                          dsimp only
                          obtain ⟨w6, hw6⟩ : ∃ w6, wo.drewN d = w6 := ⟨_, rfl⟩
                          have hxc6 : w6.cell? ⟨xb, xo + k, none⟩ = some (.int .i64 x) := by rw [← hw6]; exact hxc
                          have HRO6 := Lib.hid (show w6.ownsRow w4.heap.size 3 1 (.slice a L.length c') L.length (L.map (.int .i64)) by rw [← hw6]; exact HRO.out)
                          have HRB6 := Lib.hid (show Below w4.heap.size w4 w6 by rw [← hw6]; exact below_drewN HRB.out d)
                          have hxb6 : xb < w6.heap.size := by rw [← hw6]; exact hxb5
                          have hz6 : w4.heap.size ≤ w6.heap.size := HRB6.out.size
                          rw [hw6]
                          clear hw6 hxc
                          go_wp2_with (first
                            | (at_builtin; go_loud (refine wpList_app _ rfl _ _ 23 rfl w4.heap.size 3 HI.out.choose (.int .i64 0) 1 8 Try.underlying23 HI.out.choose_spec.1 HI.out.choose_spec.2.1 HI.out.choose_spec.2.2.1 HI.out.choose_spec.2.2.2 rfl (by decide) _ _ _ rfl (HRO6.out.alloc _) (w6.heap.size + 1) _ 1 1 [.int .i64 x] rfl (Blk.reads (Blk.new w6 _ _) (by simp) rfl rfl (by decide)) ?d1 ?d2 ?d3 ?d4 ?_))
                            | fail)
                          case d1 => first | (intro u hu; simp at hu; subst hu; rfl) | rfl
                          try (case d2 => first | (unfold maxLen; omega) | simp [maxLen])
                          try (case d3 => first | omega | simp)
                          try (case d4 => first | exact Nat.le_succ_of_le hz6 | (simp; omega) | simp | omega)
                          intro a' c'' w7 ho7 hg7 hat7
                          have HO7 := Lib.hid (show w7.ownsRow w4.heap.size 3 1 (.slice a' (L.length + 1) c'') (L.length + 1) ((L ++ [x]).map (.int .i64)) by simpa using ho7)
                          have HW7 := Lib.hid (show Below w4.heap.size w4 w7 from (HRB6.out.alloc hz6 _).grown hg7 (by simp; omega) (fun k hk => (HRO6.out.lt k hk).1))
                          clear ho7 hg7 hat7
                          go_wp2_with fail
                          go_roundw
                          case rel => exact ⟨k + 1, a', c'', by omega, by omega, by rw [HSH.out]; simp, by go_num, by rw [HSH.out]; simpa using HO7.out, HW7.out⟩
                          case measure => simp [intOf]; omega
                        · rw [show decide (16 ≤ y ∧ y < 32) = false by simpa using hp]
                          have HSH := Lib.hid (show sh ks as_ (k + 1) = L by rw [sh_no HY.out hp, HLL.out])
                          clear hs hd hp
                          dsimp only
                          go_wp2_with fail
                          go_roundw
                          case rel => exact ⟨k + 1, a, c', by omega, by omega, by rw [HSH.out], by go_num, by rw [HSH.out]; exact HRO.out, below_drewN HRB.out d⟩
                          case measure => simp [intOf]; omega
                · have h4 : ¬ (k : Int) < (nK : Int) := by omega
                  have hd3 : decide ((k : Int) < (nK : Int)) = false := by simpa using h4
                  go_wp2_with fail
                  go_meet
                  have e2 := (ofs_in (ks := ks) (as_ := as_) ⟨f0, f1⟩).trans (sh_end (k := k) (.inl (by have := HLK.out; omega)))
                  rw [HLL.out] at e2
                  rw [e2]
                  exact ⟨⟨A1, C1, rfl, own_block HO1.out (fun q e => HRB.out.block q (HO1.out.lt q e).2)⟩, ⟨a, c', rfl, own_base HRO.out hz1⟩, HW1.out.trans (HRB.out.mono hz1)⟩
              · have h3 : ¬ (k : Int) < (m : Int) := by omega
                have hd3 : decide ((k : Int) < (m : Int)) = false := by simpa using h3
                go_wp2_with fail
                go_meet
                have e2 := (ofs_in (ks := ks) (as_ := as_) ⟨f0, f1⟩).trans (sh_end (k := k) (.inr ⟨by have := HL.out; omega, by have := HLK.out; omega⟩))
                rw [HLL.out] at e2
                rw [e2]
                exact ⟨⟨A1, C1, rfl, own_block HO1.out (fun q e => HRB.out.block q (HO1.out.lt q e).2)⟩, ⟨a, c', rfl, own_base HRO.out hz1⟩, HW1.out.trans (HRB.out.mono hz1)⟩
          · have e2 : ofs 1 fn nF ks as_ = [] := by unfold ofs; exact if_neg (fun h => hfn h.2)
            have HO4 := Lib.hid (show Own1 w4 w2.heap.size (.slice none 0 0) (ofs 1 fn nF ks as_) by rw [e2]; exact ⟨none, 0, rfl, World.ownsRow_nil _ _ _ _⟩)
            have HO5 := Lib.hid (show Own1 w4 w2.heap.size (.slice A1 (wants bl o nw).length C1) (wants bl o nw) from ⟨A1, C1, rfl, HO1.out⟩)
            clear e2 HKS
            by_cases hf0 : 0 ≤ fn
            · have hf1 : ¬ fn < (nF : Int) := fun h => hfn ⟨hf0, h⟩
              have hd1 : decide (fn < (nF : Int)) = false := by simpa using hf1
              have hd2 : decide (0 ≤ fn) = true := by simpa using hf0
              clear hfn
              obtain ⟨b0, b1, b2, b3, b4, b5⟩ := HB3.out.three
              go_wp2_with fail
              go_loopw [16, 17, 18, 19] (fun ov _ _ _ wr => ov = .slice none 0 0 ∧ wr = w4) (fun _ _ _ _ _ => 0)
              case atStart => exact ⟨rfl, rfl⟩
              case round =>
                obtain ⟨rfl, rfl⟩ := hrel
                go_wp2_with fail
                go_meet
                exact ⟨HO5.out, HO4.out, HW1.out⟩
            · clear hfn
              have hd2 : decide (0 ≤ fn) = false := by simpa using hf0
              obtain ⟨b0, b1, b2, b3, b4, b5⟩ := HB3.out.three
              go_wp2_with fail
              go_loopw [16, 17, 18, 19] (fun ov _ _ _ wr => ov = .slice none 0 0 ∧ wr = w4) (fun _ _ _ _ _ => 0)
              case atStart => exact ⟨rfl, rfl⟩
              case round =>
                obtain ⟨rfl, rfl⟩ := hrel
                go_wp2_with fail
                go_meet
                exact ⟨HO5.out, HO4.out, HW1.out⟩
    · have hx : (ph == 1) = false := by simpa using h1
      have hy : (ph != 1) = true := by simpa using h1
      have HN1 := Lib.hid h1
      clear h1
      go_wp2_with fail
      go_meet
      have e1 : (if ph = 1 then wants bl o nw else []) = [] := if_neg HN1.out
      have e2 : ofs ph fn nF ks as_ = [] := by unfold ofs; exact if_neg (fun h => HN1.out h.1)
      rw [e1, e2]
      exact ⟨⟨none, 0, rfl, World.ownsRow_nil _ _ _ _⟩, ⟨none, 0, rfl, World.ownsRow_nil _ _ _ _⟩, Below.refl _ _⟩
  case rest =>
    obtain ⟨⟨wA, wC, rfl, how⟩, ⟨fA, fC, rfl, hof⟩, hb3⟩ := hcut
    obtain ⟨LW, hLW⟩ : ∃ L, (if ph = 1 then wants bl o nw else []) = L := ⟨_, rfl⟩
    obtain ⟨LF, hLF⟩ : ∃ L, ofs ph fn nF ks as_ = L := ⟨_, rfl⟩
    simp only [hLW, hLF] at how hof ⊢
    have HOW := Lib.hid how
    have HOF := Lib.hid hof
    have HLW := Lib.hid hLW
    have HLF := Lib.hid hLF
    have HB3 := Lib.hid (HB2.out.call hb3)
    have HE3 := Lib.hid (fresh_call HE2.out hb3)
    clear how hof hb3 HB2 hLW hLF
    obtain ⟨w3, rfl⟩ : ∃ w3 : World, w3 = wc := ⟨_, rfl⟩
    go_wp2_with fail
    refine (lent_any w3 w.heap.size A m c as_ ⟨HL.out, HR.out.below HE3.out⟩ (by omega)).mono ?_
    rintro e w4 ⟨g, cm, rfl, hog, hb4⟩
    obtain ⟨hfr, hmk, hcg, hcm, hgl, hgb⟩ := lent_reads hog
    have HLR := Lib.hid hfr
    have HMK := Lib.hid hmk
    have HCG := Lib.hid hcg
    have HCM := Lib.hid hcm
    have HOW4 := Lib.hid (own_block HOW.out fun q e => hb4.block q (HOW.out.lt q e).2)
    have HOF4 := Lib.hid (own_block HOF.out fun q e => hb4.block q (HOF.out.lt q e).2)
    have HB4 := Lib.hid (HB3.out.call hb4)
    have HE4 := Lib.hid (fresh_call HE3.out hb4)
    have HAR := Lib.hid (show ∀ W, Below w4.heap.size w4 W → Calls Try.prog 31 #[.int .i64 ph, .agg #[.slice GA nG cG, .slice SA nS cS, .slice FA nF cF], .int .i64 fn, .slice (some ⟨g, 0, none⟩) as_.length cm] W (Gives LF W) from fun W hW => by
      have h := args_of ph fn (.slice GA nG cG) (.slice SA nS cS) FA nF cF ks as_ (some ⟨g, 0, none⟩) as_.length cm (g + 1) w W hfm HKS.out (fresh_call HE4.out hW) ⟨rfl, HLR.out.2.below (hW.mono (by omega))⟩ (by have := hW.size; omega) (by have := HL.out; omega) WL.out
      rw [HLF.out] at h
      exact h)
    have hl1 : LW.length ≤ 2 := by
      rw [← HLW.out]
      unfold wants
      split
      · rw [List.length_append]
        have e1 : (if o ≠ 0 then [o] else []).length ≤ 1 := by split <;> simp
        have e2 : (if nw ≠ 0 ∧ bl = false ∧ nw ≠ o then [nw] else []).length ≤ 1 := by split <;> simp
        omega
      · simp
    have hl2 : LF.length ≤ 40 := by
      rw [← HLF.out]
      unfold ofs
      split
      · have := sh_len ks as_ ks.length; have := HL.out; omega
      · simp
    clear hfr hmk hcg hcm hog hb4 HB3 HE3 HOW HOF HKS HLF
    dsimp only
    go_wp2_with fail
    go_upto_region 20 with (fail)
    go_cut [21, 22, 23] from 135 to 149 (fun a b c wx => ∃ (a1 : Option Addr) (c1 : Nat) (a2 : Option Addr) (c2 : Nat) (a3 : Option Addr) (c3 : Nat), a = .slice a1 LW.length c1 ∧ b = .slice a2 LW.length c2 ∧ c = .slice a3 LF.length c3 ∧
      Trio w4 wx (.slice a1 LW.length c1) (.slice a2 LW.length c2) (.slice a3 LF.length c3) LW.length LW.length LF.length (LW.map (.int .i64)) (LW.map (.int .i64)) (LF.map (.int .i64)))
    case first =>
      have HX := Lib.hid (show Blk w4.drew bp #[.slice GA nG cG, .slice SA nS cS, .slice FA nF cF] 53 from HB4.out.drew)
      have HY := Lib.hid (show Below w4.heap.size w4 w4.drew from (Below.refl _ _).drew)
      obtain ⟨q0, q1, q2, q3, q4, q5⟩ := HX.out.three
      go_region_with (first
        | (go_at_call 16; refine (store_any ph o nw bl _ WO.out WN.out).mono ?_; rw [store_lw, HLW.out]; rintro e wS ⟨aS, cS1, rfl, hoS, hbS⟩; have HOS := Lib.hid hoS; have HBS := Lib.hid hbS; have HX := Lib.hid (HX.out.call hbS); have HY := Lib.hid (fresh_call HY.out hbS); clear hoS hbS q0 q1 q2 q3 q4 q5; obtain ⟨q0, q1, q2, q3, q4, q5⟩ := HX.out.three; dsimp only)
        | (go_at_call 35; refine (globals_any ph o nw bl _ WO.out WN.out).mono ?_; rw [store_lw, HLW.out]; rintro e wG ⟨aG, cG1, rfl, hoG, hbG⟩; have HOG := Lib.hid hoG; have HBG := Lib.hid hbG; have HX := Lib.hid (HX.out.call hbG); have HY := Lib.hid (fresh_call HY.out hbG); clear hoG hbG q0 q1 q2 q3 q4 q5; obtain ⟨q0, q1, q2, q3, q4, q5⟩ := HX.out.three; dsimp only)
        | (go_at_call 31; refine (HAR.out _ HY.out).mono ?_; rintro e wA ⟨aA, cA1, rfl, hoA, hbA⟩; have HOA := Lib.hid hoA; have HBA := Lib.hid hbA; have HX := Lib.hid (HX.out.call hbA); have HY := Lib.hid (fresh_call HY.out hbA); clear hoA hbA q0 q1 q2 q3 q4 q5; obtain ⟨q0, q1, q2, q3, q4, q5⟩ := HX.out.three; dsimp only))
      all_goals
        go_wp2_with fail
        go_meet
        refine ⟨_, _, _, _, _, _, rfl, rfl, rfl, Trio.undrew ?_⟩
        first
          | exact trio HOS.out HBS.out HOG.out HBG.out HOA.out HBA.out
          | exact (trio HOS.out HBS.out HOA.out HBA.out HOG.out HBG.out).s23
          | exact (trio HOG.out HBG.out HOS.out HBS.out HOA.out HBA.out).s12
          | exact (trio HOG.out HBG.out HOA.out HBA.out HOS.out HBS.out).s23.s12
          | exact (trio HOA.out HBA.out HOS.out HBS.out HOG.out HBG.out).s12.s23
          | exact (trio HOA.out HBA.out HOG.out HBG.out HOS.out HBS.out).s12.s23.s12
    case rest =>
      obtain ⟨a1, c1, a2, c2, a3, c3, rfl, rfl, rfl, ht⟩ := hcut
      have HT := Lib.hid ht
      clear ht HAR
      obtain ⟨w5, rfl⟩ : ∃ w5 : World, w5 = wc := ⟨_, rfl⟩
      go_wp2_with fail
      have hz5 : w4.heap.size ≤ w5.heap.size := HT.out.bel.size
      have HK6 := Lib.hid (BK3.new w5 w4.heap.size hz5)
      have HO1 := Lib.hid (HT.out.o1.alloc (.cells #[.slice none 0 0, .slice none 0 0, .slice none 0 0, .slice none 0 0, .slice none 0 0, .slice none 0 0, .slice none 0 0, .slice none 0 0, .slice none 0 0, .slice none 0 0] 66))
      have HO2 := Lib.hid (HT.out.o2.alloc (.cells #[.slice none 0 0, .slice none 0 0, .slice none 0 0, .slice none 0 0, .slice none 0 0, .slice none 0 0, .slice none 0 0, .slice none 0 0, .slice none 0 0, .slice none 0 0] 66))
      have HO3 := Lib.hid (HT.out.o3.alloc (.cells #[.slice none 0 0, .slice none 0 0, .slice none 0 0, .slice none 0 0, .slice none 0 0, .slice none 0 0, .slice none 0 0, .slice none 0 0, .slice none 0 0, .slice none 0 0] 66))
      have HBE := Lib.hid (HT.out.bel.alloc hz5 (.cells #[.slice none 0 0, .slice none 0 0, .slice none 0 0, .slice none 0 0, .slice none 0 0, .slice none 0 0, .slice none 0 0, .slice none 0 0, .slice none 0 0, .slice none 0 0] 66))
      have HD12 := Lib.hid HT.out.d12
      have HD13 := Lib.hid HT.out.d13
      have HD23 := Lib.hid HT.out.d23
      clear HT hz5
      generalize w5.alloc (.cells #[.slice none 0 0, .slice none 0 0, .slice none 0 0, .slice none 0 0, .slice none 0 0, .slice none 0 0, .slice none 0 0, .slice none 0 0, .slice none 0 0, .slice none 0 0] 66) = w6 at *
      obtain ⟨bb, hbb⟩ : ∃ bb, w5.heap.size = bb := ⟨_, rfl⟩
      rw [hbb] at HK6 ⊢
      clear hbb
      have HZ := Lib.hid HBE.out.size
      refine (BK3.ints HK6.out HZ.out HO1.out (by omega) (fun v h => h.elim)).mono ?_
      rintro e w7 ⟨rfl, hk7, hki7, hbk7⟩
      have HZ7 := Lib.hid (Nat.le_trans HZ.out hk7.size)
      have HK7 := Lib.hid hk7
      have HBK7 := Lib.hid hbk7
      have HP1 := Lib.hid (hki7 _ _ _ _ HO1.out)
      have HP2 := Lib.hid (hki7 _ _ _ _ HO2.out)
      have HP3 := Lib.hid (hki7 _ _ _ _ HO3.out)
      clear hk7 hki7 hbk7 HO1 HO2 HO3 HK6
      dsimp only
      go_wp2_with fail
      refine (BK3.ints HBK7.out HZ7.out HP2.out (by omega) (fun v h => by
        rcases h with h | rfl
        · exact h.elim
        · exact HD12.out)).mono ?_
      rintro e w8 ⟨rfl, hk8, hki8, hbk8⟩
      have HZ8 := Lib.hid (Nat.le_trans HZ7.out hk8.size)
      have HK8 := Lib.hid (HK7.out.trans hk8)
      have HBK8 := Lib.hid hbk8
      have HR1 := Lib.hid (hki8 _ _ _ _ HP1.out)
      have HR2 := Lib.hid (hki8 _ _ _ _ HP2.out)
      have HR3 := Lib.hid (hki8 _ _ _ _ HP3.out)
      clear hk8 hki8 hbk8 HP1 HP2 HP3 HBK7 HK7
      dsimp only
      go_wp2_with fail
      refine (BK3.ints HBK8.out HZ8.out HR3.out (by omega) (fun v h => by
        rcases h with (h | rfl) | rfl
        · exact h.elim
        · exact HD13.out
        · exact HD23.out)).mono ?_
      rintro e w9 ⟨rfl, hk9, hki9, hbk9⟩
      have HZ9 := Lib.hid (Nat.le_trans HZ8.out hk9.size)
      have HBL := Lib.hid (HBE.out.trans ((HK8.out.trans hk9).below HZ.out (fun i hi h => by omega)))
      have HBK9 := Lib.hid hbk9
      have HS1 := Lib.hid (hki9 _ _ _ _ HR1.out)
      have HS2 := Lib.hid (hki9 _ _ _ _ HR2.out)
      have HS3 := Lib.hid (hki9 _ _ _ _ HR3.out)
      have HOW9 := Lib.hid (own_block HOW4.out fun q e => HBL.out.block q (HOW4.out.lt q e).2)
      have HOF9 := Lib.hid (own_block HOF4.out fun q e => HBL.out.block q (HOF4.out.lt q e).2)
      clear hk9 hki9 hbk9 HR1 HR2 HR3 HBK8 HK8 HOW4 HOF4
      dsimp only
      go_wp2_with fail
      refine (same_any w9 _ _ _ _ _ _ _ _ LW LW ⟨rfl, Reads.of_own HS1.out⟩ ⟨rfl, Reads.of_own HOW9.out⟩).mono ?_
      rintro e w10 ⟨rfl, n1, rfl⟩
      simp only [decide_true]
      go_wp2_with fail
      refine (same_true (w := w9) n1 (xs := LW) ⟨rfl, Reads.of_own HS2.out⟩ ⟨rfl, Reads.of_own HOW9.out⟩).mono ?_
      rintro e w11 ⟨rfl, n2, rfl⟩
      dsimp only
      go_wp2_with fail
      refine (same_true (w := w9) n2 (xs := LF) ⟨rfl, Reads.of_own HS3.out⟩ ⟨rfl, Reads.of_own HOF9.out⟩).mono ?_
      rintro e w12 ⟨rfl, n3, rfl⟩
      dsimp only
      go_wp2_with fail
      refine (birth_any ph _).mono ?_
      rintro e w13 ⟨rfl, rfl⟩
      dsimp only
      have HEE := Lib.hid (show ((ph == 1) == (ph == 1)) = true by simp)
      go_wp2_with fail
      refine (stays_any (w9.drewN n3) g 0 as_.length cm w.heap.size A m c as_ as_ (.inr ⟨rfl, HLR.out.2.below (below_drewN (HBL.out.mono (show g + 1 ≤ w4.heap.size by omega)) n3)⟩) ⟨HL.out, HR.out.below (below_drewN (HE4.out.trans (HBL.out.mono HE4.out.size)) n3)⟩ HCG.out HCM.out (((below_drewN HBL.out n3).cell (p := ⟨g, 0 + as_.length, none⟩) hgl).trans HMK.out)).mono ?_
      rintro e w14 ⟨rfl, n4, rfl⟩
      simp only [decide_true]
      go_wp2_with fail
      refine (BK3.apart (HBK9.out.drewN (n3 + n4)) HZ9.out).mono ?_
      rintro e w15 ⟨rfl, hk15⟩
      dsimp only
      go_wp2_with fail
      go_ret
      exact ⟨rfl, (below_drewN (HE4.out.trans (HBL.out.mono HE4.out.size)) (n3 + n4)).trans (hk15.below (Nat.le_trans HE4.out.size HZ9.out) (fun i hi h => by have := HE4.out.size; omega))⟩
theorem walk (ph : Int) (bl : Bool) (o nw : Int) (GA : Option Addr) (nG cG : Nat) (SA : Option Addr) (nS cS : Nat) (FA : Option Addr) (nF cF : Nat) (fn : Int) (A : Option Addr) (m c : Nat) (as_ : List Int) (W : World)
    (_ : (Lit.int .i64 ph).wf = true) (wo : (Lit.int .i64 o).wf = true) (wn : (Lit.int .i64 nw).wf = true) (hG : nG ≤ maxLen) (hS : Prg.Shapes W SA nS cS) (hF : Prg.Funcs W FA nF cF) (_ : (Lit.int .i64 fn).wf = true) (hl : as_.length = m) (wl : ∀ x ∈ as_, (Lit.int .i64 x).wf = true) (hR : Reads W W.heap.size 1 A m c (as_.map (.int .i64))) :
    Calls Try.prog 10 #[.int .i64 ph, .bool bl, .int .i64 o, .int .i64 nw, .agg #[.slice GA nG cG, .slice SA nS cS, .slice FA nF cF], .int .i64 fn, .slice A m c] W fun e w' => e = .returned (.bool true) ∧ Below W.heap.size W w' :=
  core ph bl o nw GA nG cG SA nS cS FA nF cF fn A m c as_ W hG hS hF wo wn hl wl hR
end Go.Proofs.Ytnolkgciapggdaa.BarrierTells
