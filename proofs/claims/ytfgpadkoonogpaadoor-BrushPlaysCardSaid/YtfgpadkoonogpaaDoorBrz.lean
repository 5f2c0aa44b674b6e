/- Package brush: what a brush is in memory; the contracts of Begin, take. Package brush: the contracts of Left, sweep, Need. Package brush: the contracts of Next, Rest. Package brush: pages swept, one behind the other; the contract of Rest. -/
import Derived.Test.YtfgpadkoonogpaaDoorTz
import Derived.Test.YtfgpadkoonogpaaDoorHSw
import Derived.OwnWalk
namespace Go.Proofs.YtfgpadkoonogpaaDoor.Br
open Go.RowKit Bit Wd Tz
set_option linter.unusedSimpArgs false
set_option linter.unusedVariables false

/-- The pages that are left stand in a word. -/
structure BrAt (w : World) (b : Nat) (U : Nat) : Prop where
  blk : Blk w b #[.int .u64 U] 79
  lt : U < 18446744073709551616
theorem BrAt.keep {w w' : World} {b U : Nat} (h : BrAt w b U) (hb : w'.heap[b]? = w.heap[b]?) : BrAt w' b U := ⟨hb.trans h.blk, h.lt⟩
theorem BrAt.call {w w' : World} {b U : Nat} (h : BrAt w b U) (hb : Below w.heap.size w w') : BrAt w' b U := h.keep (hb.block b h.blk.lt)
theorem rest_bit (U f i : Nat) : (U / 2 ^ f * 2 ^ f).testBit i = (decide (f ≤ i) && U.testBit i) := by
  rw [Nat.mul_comm, Nat.testBit_two_pow_mul, Nat.testBit_div_two_pow]
  by_cases h : f ≤ i
  · rw [show i - f + f = i by omega]
  · simp [h]
theorem rest_int {U f : Nat} (h : U < 18446744073709551616) : IntKind.u64.wrap ((U : Int) / (2 : Int) ^ f * (2 : Int) ^ f) = ((U / 2 ^ f * 2 ^ f : Nat) : Int) := by
  have e : (U : Int) / (2 : Int) ^ f * (2 : Int) ^ f = ((U / 2 ^ f * 2 ^ f : Nat) : Int) := by
    rw [Int.natCast_mul, Int.natCast_ediv]
    simp
  rw [e]
  have := Nat.div_mul_le_self U (2 ^ f)
  exact wrap_u64 (by omega)
theorem take_any (b U f : Nat) (w : World) (h : BrAt w b U) (hf : f ≤ 64) (hT : Tab w) :
    Calls Tryd.prog 82 #[.pointer (some ⟨b, 0, none⟩), .int .i64 (f : Int)] w fun e w' => ∃ r : Int, e = .returned (.int .i64 r) ∧ Nxt U.testBit f r ∧ w = w' := by
  have c0 : w.cell? ⟨b, 0, none⟩ = some (.int .u64 U) := h.blk.cell 0
  have HT := Lib.hid hT
  have HU := Lib.hid h.lt
  have HK := Lib.hid (rest_int (f := f) h.lt)
  have HY := Lib.hid (show U / 2 ^ f * 2 ^ f < 18446744073709551616 by have := Nat.div_mul_le_self U (2 ^ f); have := h.lt; omega)
  have HB := Lib.hid (rest_bit U f)
  clear h hT
  go_enter Tryd.func82, Tryd.ntmps82
  go_upto_if 19 with (fail)
  rw [HK.out]
  generalize U / 2 ^ f * 2 ^ f = y at *
  by_cases h0 : y = 0
  · have hy0 : ((y : Int) == 0) = true := by simp [h0]
    rw [hy0]
    subst h0
    go_wp2_with fail
    go_ret
    refine ⟨-1, rfl, .inl ⟨rfl, fun j hj => ?_⟩, rfl⟩
    have := HB.out j
    rw [Nat.zero_testBit] at this
    simpa [hj] using this.symm
  · have hy0 : ((y : Int) == 0) = false := by simp; omega
    rw [hy0]
    go_wp2_with fail
    refine (tz_any y HY.out h0 _ HT.out).mono ?_
    rintro e w1 ⟨rfl, rfl⟩
    dsimp only
    go_wp2_with fail
    go_ret
    refine ⟨_, rfl, ?_, rfl⟩
    have := (word_some (p := U.testBit) (f := f) (k := 0) HY.out h0 (fun i _ => by rw [HB.out]; simp) (fun j _ hj => by omega)).2
    simpa using this
theorem full_int {f : Nat} (hf : f ≤ 64) : bits .xor .u64 IntKind.u64.max (IntKind.u64.wrap (18446744073709551615 * (2 : Int) ^ f)) = ((2 ^ f - 1 : Nat) : Int) := by
  have : ∀ f : Nat, f < 65 → bits .xor .u64 IntKind.u64.max (IntKind.u64.wrap (18446744073709551615 * (2 : Int) ^ f)) = ((2 ^ f - 1 : Nat) : Int) := by decide
  exact this f (by omega)
theorem begin_core (b U f : Nat) (x : Int) (w : World) (h : BrAt w b U) (hf : f ≤ 64) (hx : min (max x 0) 64 = (f : Int)) :
    Calls Tryd.prog 40 #[.pointer (some ⟨b, 0, none⟩), .int .i64 x] w fun e w' => e = .returned (.tuple #[]) ∧ BrAt w' b (2 ^ f - 1) ∧ Kept (fun i => i = b) w w' := by
  have c0 : w.cell? ⟨b, 0, none⟩ = some (.int .u64 U) := h.blk.cell 0
  have hlt := h.blk.lt
  have hfr := h.blk.free 0
  have H := Lib.hid h
  have HK := Lib.hid (full_int hf)
  have hxx : (f = 0 ∧ x < 0) ∨ (f = 64 ∧ 64 < x) ∨ (x = (f : Int)) := by omega
  clear h hx
  have e1 : bits .xor .u64 IntKind.u64.max 18446744073709551615 = 0 := by decide
  have e2 : bits .xor .u64 IntKind.u64.max (IntKind.u64.wrap 340282366920938463444927863358058659840) = 18446744073709551615 := by decide
  rcases hxx with ⟨rfl, hxx⟩ | ⟨rfl, hxx⟩ | rfl
  · go_enter Tryd.func40, Tryd.ntmps40
    go_wp2_with fail
    refine bodyPost_end (results_none rfl _ _ _) rfl ?_
    exact ⟨rfl, ⟨Blk.of_eq (H.out.blk.set 0 _) (cs' := #[.int .u64 0]) rfl, by decide⟩, (Kept.refl (fun i => i = b) w).set (p := ⟨b, 0, none⟩) (.inl rfl) _⟩
  · go_enter Tryd.func40, Tryd.ntmps40
    go_wp2_with fail
    refine bodyPost_end (results_none rfl _ _ _) rfl ?_
    exact ⟨rfl, ⟨Blk.of_eq (H.out.blk.set 0 _) (cs' := #[.int .u64 18446744073709551615]) rfl, by decide⟩, (Kept.refl (fun i => i = b) w).set (p := ⟨b, 0, none⟩) (.inl rfl) _⟩
  · go_enter Tryd.func40, Tryd.ntmps40
    go_wp2_with fail
    rw [HK.out]
    refine bodyPost_end (results_none rfl _ _ _) rfl ?_
    exact ⟨rfl, ⟨Blk.of_eq (H.out.blk.set 0 _) (cs' := #[.int .u64 ((2 ^ f - 1 : Nat) : Int)]) rfl, by have : 2 ^ f ≤ 2 ^ 64 := Nat.pow_le_pow_right (by omega) hf; omega⟩, (Kept.refl (fun i => i = b) w).set (p := ⟨b, 0, none⟩) (.inl rfl) _⟩
theorem begin_any (b U : Nat) (x : Int) (w : World) (h : BrAt w b U) :
    Calls Tryd.prog 40 #[.pointer (some ⟨b, 0, none⟩), .int .i64 x] w fun e w' => e = .returned (.tuple #[]) ∧ BrAt w' b (2 ^ (min (max x 0) 64).toNat - 1) ∧ Kept (fun i => i = b) w w' :=
  begin_core b U _ x w h (by omega) (by omega)
end Go.Proofs.YtfgpadkoonogpaaDoor.Br

namespace Go.Proofs.YtfgpadkoonogpaaDoor.Br
open Go.RowKit Bit Wd Hp Ar
set_option linter.unusedSimpArgs false
set_option linter.unusedVariables false

def rem (n : Nat) (v : Value) : Nat := if intOf v < 0 then 0 else n + 1 - (intOf v).toNat
theorem rem_neg (n : Nat) : rem n (.int .i64 (-1)) = 0 := rfl
theorem rem_pos (n j : Nat) : rem n (.int .i64 (j : Int)) = n + 1 - j := by
  unfold rem intOf
  rw [if_neg (by dsimp only; omega)]
  dsimp only
  omega
theorem bit_lt {U j : Nat} (h : U < 18446744073709551616) (hj : U.testBit j = true) : j < 64 := by
  by_cases h64 : j < 64
  · exact h64
  · rw [Wd.high_bit h (by omega)] at hj; cases hj
/-- Which ones are left. -/
def lefts (U : Nat) : List Int := (sl 64 U.testBit).map fun (i : Nat) => (i : Int)
theorem left_any (b U : Nat) (w : World) (h : BrAt w b U) (hT : Tz.Tab w) :
    Calls Tryd.prog 36 #[.pointer (some ⟨b, 0, none⟩)] w (ListsI (lefts U) w) := by
  obtain ⟨i0, hi0, hz0, hz1, hz2⟩ := info_parts Pg.infoI
  have HI := Lib.hid (⟨hi0, hz0, hz1, hz2⟩ : Tryd.prog.info? 3 = some i0 ∧ i0.zero = some (.int .i64 0) ∧ i0.size = 1 ∧ i0.bytes = 8)
  have HT := Lib.hid hT
  have H := Lib.hid h
  have HU := Lib.hid h.lt
  clear hi0 hz0 hz1 hz2 hT h
  go_enter Tryd.func36, Tryd.ntmps36
  go_wp2_with fail
  refine (take_any b U 0 _ H.out (by omega) HT.out).mono ?_
  rintro e w1 ⟨r, rfl, hr, rfl⟩
  have HR := Lib.hid hr
  clear hr
  dsimp only
  go_wp2_with fail
  go_loopw [3, 4] (fun v k wr => ∃ (f : Nat) (r : Int) (a : Option Addr) (c : Nat), f ≤ 64 ∧ k = .int .i64 r ∧ Tz.Nxt U.testBit f r ∧ v = .slice a (sl f U.testBit).length c ∧
    wr.ownsRow w.heap.size 3 1 (.slice a (sl f U.testBit).length c) (sl f U.testBit).length (ints' ((sl f U.testBit).map fun (i : Nat) => (i : Int))) ∧ Below w.heap.size w wr) (fun _ k _ => rem 64 k)
  case atStart => exact ⟨0, r, none, 0, by omega, rfl, HR.out, rfl, World.ownsRow_nil _ _ _ _, Below.refl _ _⟩
  case round =>
    clear HR
    obtain ⟨f, r, a, c, hf, rfl, hr, rfl, ho, hb⟩ := hrel
    have HO := Lib.hid ho
    have HB := Lib.hid hb
    clear ho hb
    rcases hr with ⟨rfl, hno⟩ | ⟨j, rfl, hfj, hj, hno⟩
    · have he : sl 64 U.testBit = sl f U.testBit := Tz.sl_end hf hno
      have HE := Lib.hid he
      clear he hno
      go_wp2_with fail
      go_ret
      unfold lefts
      exact ⟨a, c, by rw [HE.out, List.length_map]; rfl, by rw [HE.out, List.length_map]; exact HO.out, HB.out⟩
    · have hj64 := bit_lt HU.out hj
      have hsn := Tz.sl_next hfj hj hno
      have hsl := sl_len f U.testBit
      have HSN := Lib.hid hsn
      have HLN := Lib.hid (show (sl (j + 1) U.testBit).length = (sl f U.testBit).length + 1 by rw [hsn]; simp)
      have hj0 : (0 : Int) ≤ (j : Int) := by omega
      have hz := HB.out.size
      clear hsn hno
      go_wp2_with (first
        | (at_builtin; go_loud (refine wpList_app _ rfl _ _ 27 rfl w.heap.size 3 i0 (.int .i64 0) 1 8 Tryd.underlying27 HI.out.1 HI.out.2.1 HI.out.2.2.1 HI.out.2.2.2 rfl (by decide) _ _ _ rfl (HO.out.alloc _) (wr.heap.size + 1) _ 1 1 [.int .i64 (j : Int)] rfl (Blk.reads (Blk.new wr _ _) (by simp) rfl rfl (by decide)) ?c1 ?c2 ?c3 ?c4 ?_))
        | fail)
      case c1 => intro u hu; simp at hu; subst hu; rfl
      case c2 => unfold maxLen; omega
      case c3 => omega
      case c4 => (try simp only [World.size_alloc]); omega
      intro a4 c4 w4 ho4 hg4 hat4
      have HO4 := Lib.hid (show w4.ownsRow w.heap.size 3 1 (.slice a4 (sl (j + 1) U.testBit).length c4) (sl (j + 1) U.testBit).length (ints' ((sl (j + 1) U.testBit).map fun (i : Nat) => (i : Int))) from by
        rw [HLN.out, HSN.out]; simpa [ints'] using ho4)
      have HB4 := Lib.hid (show Below w.heap.size w w4 from (fresh_alloc HB.out _).grown hg4 (by simp; omega) (fun k hk => (HO.out.lt k hk).1))
      clear ho4 hg4 hat4
      have H4 := Lib.hid (H.out.call HB4.out)
      have HT4 := Lib.hid (HT.out.call HB4.out)
      go_wp2_with fail
      refine (take_any b U (j + 1) _ H4.out (by omega) HT4.out).mono ?_
      rintro e w5 ⟨r, rfl, hr, rfl⟩
      have HR := Lib.hid hr
      clear hr
      dsimp only
      go_wp2_with fail
      go_roundw
      case rel => exact ⟨j + 1, r, a4, c4, by omega, rfl, HR.out, by rw [HLN.out], HO4.out, HB4.out⟩
      case measure =>
        rcases HR.out with ⟨rfl, _⟩ | ⟨i, rfl, hi, _⟩
        · rw [rem_neg, rem_pos]; omega
        · rw [rem_pos, rem_pos]; omega
/-- What became of a page that was swept. -/
def PgX (σ σ' : HS) (k : Nat) : Prop :=
  (∀ p, σ.ps[k]? = some (some p) → (σ'.ps[k]? = some none ∧ ∀ s, σ'.M k s = none) ∨ ∃ q, σ'.ps[k]? = some (some q) ∧ q.c = p.c ∧ q.n = p.n ∧ ∃ s, (σ'.M k s).isSome = true) ∧ ((∀ p, σ.ps[k]? ≠ some (some p)) → σ'.ps[k]? = σ.ps[k]?)
theorem PgX.to {σ σ0 σ' : HS} {k : Nat} (h : PgX σ σ' k) (e : σ.ps[k]? = σ0.ps[k]?) : PgX σ0 σ' k := by
  unfold PgX at h ⊢
  rw [← e]
  exact h
theorem PgX.on {σ σ0 σ' : HS} {k : Nat} (h : PgX σ σ' k) (e : σ0.ps[k]? = σ'.ps[k]?) (m : ∀ s, σ0.M k s = σ'.M k s) : PgX σ σ0 k := by
  unfold PgX at h ⊢
  rw [e]
  have m : σ0.M k = σ'.M k := funext m
  rw [m]
  exact h
/-- A sweep of one page, whatever it is. -/
structure Sw1 (σ : HS) (k g : Nat) (σ' : HS) : Prop where
  sub : Sub σ' σ
  len : σ'.ps.length = σ.ps.length
  M : ∀ i s, σ'.M i s = if i = k then sw1 (σ.M i s) else σ.M i s
  num : num σ' + g = num σ
  other : ∀ i, i ≠ k → σ'.ps[i]? = σ.ps[i]?
  at_ : ∀ p', σ'.ps[k]? = some (some p') → ∃ p, σ.ps[k]? = some (some p) ∧ p'.c = p.c
  ws : σ'.ws = σ.ws
  sr : σ'.sr = σ.sr
  gv : σ'.gv = σ.gv
  pg : PgX σ σ' k
def SwIs (B : HB) (ls : List (List Int)) (σ : HS) (k : Nat) (w : World) (e : Ending) (w' : World) : Prop :=
  ∃ (g : Nat) (σ' : HS), e = .returned (.int .i64 (g : Int)) ∧ Sw1 σ k g σ' ∧ HpAt w' B ls σ' ∧ Kept (fun i => HFoot B σ i) w w' ∧ ∀ i, HFoot B σ' i → HFoot B σ i
theorem sweepP_any (B : HB) (ls : List (List Int)) (σ : HS) (k : Nat) (w : World) (h : HpAt w B ls σ) (hT : Pg.Tab w) :
    Calls Tryd.prog 31 #[.pointer (some ⟨B.b, 0, none⟩), .int .i64 (k : Int)] w (SwIs B ls σ k w) := by
  rcases hg : Ar.get σ.ps (k : Int) with _ | p
  · refine (sweep_none B ls σ k _ h hT hg).mono ?_
    rintro e w' ⟨rfl, hb⟩
    refine ⟨0, σ, rfl, ⟨Sub.refl σ, rfl, fun i s => ?_, rfl, fun _ _ => rfl, fun p' hp => ⟨p', hp, rfl⟩, rfl, rfl, rfl, fun q hq => (by rw [get_nat, hq] at hg; cases hg), fun _ => rfl⟩, h.call hb, Kept.of_below hb _, fun i hi => hi⟩
    by_cases hi : i = k
    · subst hi
      rw [if_pos rfl]
      have hn : σ.M i s = none := by
        rcases hm : σ.M i s with _ | t
        · rfl
        · obtain ⟨q, hq, _⟩ := (h.inv i s).1 (by rw [hm]; rfl)
          rw [get_nat, hq] at hg
          cases hg
      rw [hn]
      rfl
    · rw [if_neg hi]
  · obtain ⟨k', hk', hp⟩ := get_some hg
    obtain rfl : k' = k := by omega
    refine (sweep_some B ls σ k' p _ h hT hp).mono ?_
    rintro e w' ⟨x, rfl, h1, h2, h3⟩
    have hxb : ∀ q, x = some q → q.c = p.c ∧ q.b = p.b := by
      rintro q rfl
      rcases h3 with ⟨h3, _⟩ | ⟨q', h3, h4, h5, _⟩
      · cases h3
      · injection h3 with h3
        subst h3
        exact ⟨h5, h4⟩
    have hkl := (List.getElem?_eq_some_iff.1 hp).1
    refine ⟨_, _, rfl, ⟨sub_sweep hp (fun q hq => (hxb q hq).1) _, ?_, fun i s => ?_, sw_num h hp (fun q hq => (hxb q hq).1) h1, fun i hi => ?_, fun p' hp' => ?_, rfl, rfl, rfl, fun q hq => ?_, fun hn => absurd hp (hn p)⟩, h1, h2.wide (fun i _ e => foot_sw hp i e), fun i hi => ?_⟩
    · show (σ.ps.set k' x).length = _
      rw [List.length_set]
    · show swM σ.M k' (Bit.bl p.U) i s = _
      exact swM_in h hp i s
    · exact List.getElem?_set_ne (fun e => hi e.symm)
    · have hp' : (σ.ps.set k' x)[k']? = some (some p') := hp'
      rw [List.getElem?_set_self hkl] at hp'
      injection hp' with hp'
      exact ⟨p, hp, (hxb p' hp').1⟩
    · rw [hp] at hq
      injection hq with hq
      injection hq with hq
      subst hq
      show ((σ.ps.set k' x)[k']? = some none ∧ _) ∨ ∃ q, (σ.ps.set k' x)[k']? = some (some q) ∧ _
      rw [List.getElem?_set_self hkl]
      rcases h3 with ⟨h3, h4⟩ | ⟨q', h3, _, h5, h6, h7⟩
      · exact .inl ⟨by rw [h3], h4⟩
      · exact .inr ⟨q', by rw [h3], h5, h6, h7⟩
    · rcases foot_set (σ := σ) rfl hi with h | ⟨q, hq, rfl⟩
      · exact h
      · rw [(hxb q hq).2]
        exact foot_pg hp
/-- A set without a number. -/
def rm (U k : Nat) : Nat := U &&& (18446744073709551615 - 2 ^ k)
theorem rm_bit {U k : Nat} (hU : U < 18446744073709551616) (hk : k < 64) (i : Nat) : (rm U k).testBit i = (U.testBit i && decide (i ≠ k)) := by
  unfold rm
  rw [Nat.testBit_and, comp_bit _ _ (pow_lt hk), Nat.testBit_two_pow]
  by_cases hi : i < 64
  · simp only [hi, decide_true, Bool.true_and]
    congr 1
    by_cases e : k = i
    · simp [e]
    · have e' : ¬ i = k := fun e' => e e'.symm
      simp [e, e']
  · rw [Wd.high_bit hU (by omega)]
    simp
theorem rm_lt {U k : Nat} (hU : U < 18446744073709551616) : rm U k < 18446744073709551616 := and_lt hU
theorem andn_pow {U k : Nat} (hU : U < 18446744073709551616) (hk : k < 64) : bits .andNot .u64 (U : Int) (IntKind.u64.wrap ((2 : Int) ^ k)) = ((rm U k : Nat) : Int) := by
  have e : IntKind.u64.wrap ((2 : Int) ^ k) = ((2 ^ k : Nat) : Int) := by
    rw [show ((2 : Int) ^ k) = ((2 ^ k : Nat) : Int) by simp]
    exact wrap_u64 (pow_lt hk)
  rw [e, andn64 U _ hU (pow_lt hk)]
  rfl
/-- The brush has swept a page. -/
def BSw (bb U : Nat) (B : HB) (ls : List (List Int)) (σ : HS) (k : Nat) (w : World) (e : Ending) (w' : World) : Prop :=
  ∃ (g : Nat) (σ' : HS), e = .returned (.int .i64 (g : Int)) ∧ BrAt w' bb (rm U k) ∧ Sw1 σ k g σ' ∧ HpAt w' B ls σ' ∧ Kept (fun i => i = bb ∨ HFoot B σ i) w w' ∧ ∀ i, HFoot B σ' i → HFoot B σ i
theorem bsweep_any (bb U : Nat) (B : HB) (ls : List (List Int)) (σ : HS) (k : Nat) (w : World) (h : BrAt w bb U) (hk : k < 64) (hp : HpAt w B ls σ) (hT : Pg.Tab w) (hf : ¬ HFoot B σ bb) (hz : B.z ≤ bb) (ht : 0 ≠ bb) :
    Calls Tryd.prog 83 #[.pointer (some ⟨bb, 0, none⟩), .pointer (some ⟨B.b, 0, none⟩), .int .i64 (k : Int)] w (BSw bb U B ls σ k w) := by
  have c0 : w.cell? ⟨bb, 0, none⟩ = some (.int .u64 U) := h.blk.cell 0
  have hlt := h.blk.lt
  have hfr := h.blk.free 0
  have hk2 : (k : Int) < 64 := by omega
  have H := Lib.hid h
  have HP := Lib.hid hp
  have HT := Lib.hid hT
  have HF := Lib.hid hf
  have HK := Lib.hid (andn_pow h.lt hk)
  clear h hp hT hf
  go_enter Tryd.func83, Tryd.ntmps83
  go_wp2_with fail
  rw [HK.out]
  have hk1 : Kept (fun i => i = bb) w (w.setCell ⟨bb, 0, none⟩ (.int .u64 ((rm U k : Nat) : Int))) := (Kept.refl (fun i => i = bb) w).set (p := ⟨bb, 0, none⟩) (.inl rfl) _
  have HP1 := Lib.hid (HP.out.kept hk1 (fun i hi e => by
    rcases hi with hi | hi
    · exact HF.out (e ▸ hi)
    · omega))
  have HT1 := Lib.hid (HT.out.kept hk1 ht)
  have HB1 := Lib.hid (show BrAt (w.setCell ⟨bb, 0, none⟩ (.int .u64 ((rm U k : Nat) : Int))) bb (rm U k) from ⟨Blk.of_eq (H.out.blk.set 0 _) (cs' := #[.int .u64 ((rm U k : Nat) : Int)]) rfl, rm_lt H.out.lt⟩)
  have HK1 := Lib.hid hk1
  clear hk1 c0 hfr hlt
  generalize w.setCell ⟨bb, 0, none⟩ (.int .u64 ((rm U k : Nat) : Int)) = w1 at *
  refine (sweepP_any B ls σ k _ HP1.out HT1.out).mono ?_
  rintro e w2 ⟨g, σ', rfl, hs, hp2, hk2', hf2⟩
  have HS := Lib.hid hs
  have HP2 := Lib.hid hp2
  have HF2 := Lib.hid hf2
  have HB2 := Lib.hid (HB1.out.keep (hk2'.block bb HB1.out.blk.lt HF.out))
  have HK2 := Lib.hid (((HK1.out.wide (S' := fun i => i = bb ∨ HFoot B σ i) (fun i _ e => .inl e)).trans (hk2'.wide (fun i _ e => .inr e))))
  clear hs hp2 hf2 hk2'
  dsimp only
  go_wp2_with fail
  go_ret
  exact ⟨g, σ', rfl, HB2.out, HS.out, HP2.out, HK2.out, HF2.out⟩
/-- The class of a page; below 0 of none. -/
def pcl (σ : HS) (k : Nat) : Int := match Ar.get σ.ps (k : Int) with | none => -1 | some p => p.c
theorem kcl_pcl (σ : HS) (k : Nat) : ∃ b, kcl σ k = .tuple #[.int .i64 (pcl σ k), .bool b] := by
  unfold kcl pcl
  cases Ar.get σ.ps (k : Int) with
  | none => exact ⟨_, rfl⟩
  | some p => exact ⟨_, rfl⟩
theorem pcl_same {σ σ' : HS} {k : Nat} (h : σ'.ps[k]? = σ.ps[k]?) : pcl σ' k = pcl σ k := by
  unfold pcl
  rw [get_nat, get_nat, h]
/-- Behind Need: no more pages are left than were, and those that are left no more were of the class. -/
def NeedIs (bb U : Nat) (B : HB) (ls : List (List Int)) (σ : HS) (c : Int) (w : World) (e : Ending) (w' : World) : Prop :=
  ∃ (b : Bool) (U' : Nat) (σ' : HS), e = .returned (.bool b) ∧ BrAt w' bb U' ∧ HpAt w' B ls σ' ∧ Kept (fun i => i = bb ∨ HFoot B σ i) w w' ∧ (∀ i, HFoot B σ' i → HFoot B σ i) ∧ (∀ i, U'.testBit i = true → U.testBit i = true) ∧ ∀ i, U.testBit i = true → U'.testBit i = false → pcl σ i = c
theorem need_any (bb U : Nat) (B : HB) (ls : List (List Int)) (σ : HS) (c : Int) (w : World) (h : BrAt w bb U) (hp : HpAt w B ls σ) (hT : Pg.Tab w) (hT2 : Tz.Tab w) (hf : ¬ HFoot B σ bb) (hz : B.z ≤ bb) (ht : 0 < B.z) (ht2 : 1 < B.z) :
    Calls Tryd.prog 39 #[.pointer (some ⟨bb, 0, none⟩), .pointer (some ⟨B.b, 0, none⟩), .int .i64 c] w (NeedIs bb U B ls σ c w) := by
  have H := Lib.hid h
  have HP := Lib.hid hp
  have HT := Lib.hid hT
  have HT2 := Lib.hid hT2
  have HF := Lib.hid hf
  have HSZ := Lib.hid (show ∀ i, i = bb ∨ HFoot B σ i → B.z ≤ i from fun i hi => by
    rcases hi with rfl | hi
    · exact hz
    · exact hp.new i hi)
  clear h hp hT hT2 hf
  go_enter Tryd.func39, Tryd.ntmps39
  go_wp2_with fail
  refine (take_any bb U 0 _ H.out (by omega) HT2.out).mono ?_
  rintro e w1 ⟨r, rfl, hr, rfl⟩
  have HR := Lib.hid hr
  clear hr
  dsimp only
  go_wp2_with fail
  go_loopw [7, 8, 9, 10, 11] (fun kv _ _ _ _ wr => ∃ (f : Nat) (r : Int) (U' : Nat) (σ' : HS), f ≤ 64 ∧ kv = .int .i64 r ∧ Tz.Nxt U'.testBit f r ∧ BrAt wr bb U' ∧ HpAt wr B ls σ' ∧ Kept (fun i => i = bb ∨ HFoot B σ i) w wr ∧ (∀ i, HFoot B σ' i → HFoot B σ i) ∧
    (∀ i, U'.testBit i = true → U.testBit i = true) ∧ (∀ i, U.testBit i = true → U'.testBit i = false → pcl σ i = c) ∧ ∀ i, f ≤ i → σ'.ps[i]? = σ.ps[i]?) (fun kv _ _ _ _ _ => rem 64 kv)
  case atStart => exact ⟨0, r, U, σ, by omega, rfl, HR.out, H.out, HP.out, Kept.refl _ _, fun i hi => hi, fun i hi => hi, fun i h1 h2 => (by rw [h1] at h2; cases h2), fun i _ => rfl⟩
  case round =>
    clear HR
    obtain ⟨f, r, U', σ', hf, rfl, hr, hb, hp, hk, hft, hsub, hcl, hps⟩ := hrel
    have HB1 := Lib.hid hb
    have HP1 := Lib.hid hp
    have HK1 := Lib.hid hk
    have HFT := Lib.hid hft
    have HSB := Lib.hid hsub
    have HCL := Lib.hid hcl
    have HPS := Lib.hid hps
    have HT1 := Lib.hid (HT.out.kept hk (fun e => by have := HSZ.out _ e; omega))
    have HT21 := Lib.hid (HT2.out.kept hk (fun e => by have := HSZ.out _ e; omega))
    clear hb hp hk hft hsub hcl hps
    rcases hr with ⟨rfl, hno⟩ | ⟨j, rfl, hfj, hj, hno⟩
    · clear hno
      go_wp2_with fail
      go_ret
      exact ⟨false, U', σ', rfl, HB1.out, HP1.out, HK1.out, HFT.out, HSB.out, HCL.out⟩
    · have hj64 := bit_lt HB1.out.lt hj
      have hj0 : (0 : Int) ≤ (j : Int) := by omega
      obtain ⟨rb, hkc⟩ := kcl_pcl σ' j
      have HPC := Lib.hid (show pcl σ' j = pcl σ j from pcl_same (HPS.out j hfj))
      clear hno
      go_wp2_with fail
      refine (class_any' B ls σ' j _ HP1.out).mono ?_
      rw [hkc, HPC.out]
      rintro e w2 ⟨rfl, d, rfl⟩
      have HB2 := Lib.hid (show BrAt (wr.drewN d) bb U' from HB1.out.keep rfl)
      have HP2 := Lib.hid (HP1.out.drewN d)
      have HK2 := Lib.hid (HK1.out.drewN d)
      have HT2' := Lib.hid (show Pg.Tab (wr.drewN d) from HT1.out.drewN d)
      have HT22 := Lib.hid (show Tz.Tab (wr.drewN d) from HT21.out.drewN d)
      clear HB1 HP1 HK1 HT1 HT21 hkc HPC
      generalize wr.drewN d = w2 at *
      dsimp only
      by_cases hc : pcl σ j = c ∧ 0 ≤ c
      · obtain ⟨hc, hc0⟩ := hc
        rw [hc]
        have hce : (c != c) = false := by rw [bne_eq_false_iff_eq]
        have hcn : ¬ c < 0 := by omega
        go_wp2_with fail
        refine (bsweep_any bb U' B ls σ' j _ HB2.out hj64 HP2.out HT2'.out (fun e => HF.out (HFT.out bb e)) hz (by omega)).mono ?_
        rintro e w3 ⟨g, σ3, rfl, hb3, hs3, hp3, hk3, hf3⟩
        have HB3 := Lib.hid hb3
        have HP3 := Lib.hid hp3
        have hk3' : Kept (fun i => i = bb ∨ HFoot B σ i) w2 w3 := hk3.wide (fun i _ e => e.imp id (HFT.out i))
        have HK3 := Lib.hid (HK2.out.trans hk3')
        have HF3 := Lib.hid (fun i hi => HFT.out i (hf3 i hi))
        have HT3 := Lib.hid (HT2'.out.kept hk3' (fun e => by have := HSZ.out _ e; omega))
        have HT23 := Lib.hid (HT22.out.kept hk3' (fun e => by have := HSZ.out _ e; omega))
        have HBT := Lib.hid (rm_bit (k := j) HB2.out.lt hj64)
        have HSB3 := Lib.hid (show ∀ i, (rm U' j).testBit i = true → U.testBit i = true from fun i hi => by
          rw [HBT.out, Bool.and_eq_true] at hi
          exact HSB.out i hi.1)
        have HCL3 := Lib.hid (show ∀ i, U.testBit i = true → (rm U' j).testBit i = false → pcl σ i = c from fun i h1 h2 => by
          by_cases hi : i = j
          · rw [hi]; exact hc
          · refine HCL.out i h1 ?_
            rw [HBT.out] at h2
            simpa [hi] using h2)
        have HPS3 := Lib.hid (show ∀ i, j + 1 ≤ i → σ3.ps[i]? = σ.ps[i]? from fun i hi => (hs3.other i (by omega)).trans (HPS.out i (by omega)))
        obtain ⟨rb3, hkc3⟩ := kcl_pcl σ3 j
        clear hb3 hp3 hk3 hk3' hf3 hs3 HB2 HP2 HK2 HT2' HT22
        dsimp only
        go_wp2_with fail
        refine (class_any' B ls σ3 j _ HP3.out).mono ?_
        rw [hkc3]
        rintro e w4 ⟨rfl, d, rfl⟩
        have HB4 := Lib.hid (show BrAt (w3.drewN d) bb (rm U' j) from HB3.out.keep rfl)
        have HP4 := Lib.hid (HP3.out.drewN d)
        have HK4 := Lib.hid (HK3.out.drewN d)
        have HT4 := Lib.hid (show Tz.Tab (w3.drewN d) from HT23.out.drewN d)
        clear HB3 HP3 HK3 HT3 HT23 hkc3
        generalize w3.drewN d = w4 at *
        generalize pcl σ3 j = c3
        dsimp only
        by_cases hroom : c3 = c ∧ rb3 = true
        · obtain ⟨rfl, rfl⟩ := hroom
          have hcc : (c3 == c3) = true := by simp
          go_wp2_with fail
          go_ret
          exact ⟨true, _, σ3, rfl, HB4.out, HP4.out, HK4.out, HF3.out, HSB3.out, HCL3.out⟩
        · by_cases hcc : c3 = c
          · have hrb : rb3 = false := by
              rcases rb3 with _ | _
              · rfl
              · exact absurd ⟨hcc, rfl⟩ hroom
            subst hrb hcc
            have hcc : (c3 == c3) = true := by simp
            clear hroom
            go_wp2_with fail
            refine (take_any bb (rm U' j) (j + 1) _ HB4.out (by omega) HT4.out).mono ?_
            rintro e w5 ⟨r2, rfl, hr2, rfl⟩
            have HR2 := Lib.hid hr2
            clear hr2
            dsimp only
            go_wp2_with fail
            go_roundw
            case rel => exact ⟨j + 1, r2, (rm U' j), σ3, by omega, rfl, HR2.out, HB4.out, HP4.out, HK4.out, HF3.out, HSB3.out, HCL3.out, HPS3.out⟩
            case measure =>
              rcases HR2.out with ⟨rfl, _⟩ | ⟨i, rfl, hi, _⟩
              · rw [rem_neg, rem_pos]; omega
              · rw [rem_pos, rem_pos]; omega
          · have hcb : (c3 == c) = false := by simpa using hcc
            clear hroom hcc
            go_wp2_with fail
            refine (take_any bb (rm U' j) (j + 1) _ HB4.out (by omega) HT4.out).mono ?_
            rintro e w5 ⟨r2, rfl, hr2, rfl⟩
            have HR2 := Lib.hid hr2
            clear hr2
            dsimp only
            go_wp2_with fail
            go_roundw
            case rel => exact ⟨j + 1, r2, (rm U' j), σ3, by omega, rfl, HR2.out, HB4.out, HP4.out, HK4.out, HF3.out, HSB3.out, HCL3.out, HPS3.out⟩
            case measure =>
              rcases HR2.out with ⟨rfl, _⟩ | ⟨i, rfl, hi, _⟩
              · rw [rem_neg, rem_pos]; omega
              · rw [rem_pos, rem_pos]; omega
      · by_cases hcc : pcl σ j = c
        · have hc0 : c < 0 := by omega
          rw [hcc]
          have hce : (c != c) = false := by rw [bne_eq_false_iff_eq]
          clear hc hcc
          go_wp2_with fail
          refine (take_any bb U' (j + 1) _ HB2.out (by omega) HT22.out).mono ?_
          rintro e w5 ⟨r2, rfl, hr2, rfl⟩
          have HR2 := Lib.hid hr2
          clear hr2
          dsimp only
          go_wp2_with fail
          go_roundw
          case rel => exact ⟨j + 1, r2, U', σ', by omega, rfl, HR2.out, HB2.out, HP2.out, HK2.out, HFT.out, HSB.out, HCL.out, fun i hi => HPS.out i (by omega)⟩
          case measure =>
            rcases HR2.out with ⟨rfl, _⟩ | ⟨i, rfl, hi, _⟩
            · rw [rem_neg, rem_pos]; omega
            · rw [rem_pos, rem_pos]; omega
        · have hce : (pcl σ j != c) = true := by simpa using hcc
          generalize pcl σ j = cj at *
          clear hc hcc
          go_wp2_with fail
          refine (take_any bb U' (j + 1) _ HB2.out (by omega) HT22.out).mono ?_
          rintro e w5 ⟨r2, rfl, hr2, rfl⟩
          have HR2 := Lib.hid hr2
          clear hr2
          dsimp only
          go_wp2_with fail
          go_roundw
          case rel => exact ⟨j + 1, r2, U', σ', by omega, rfl, HR2.out, HB2.out, HP2.out, HK2.out, HFT.out, HSB.out, HCL.out, fun i hi => HPS.out i (by omega)⟩
          case measure =>
            rcases HR2.out with ⟨rfl, _⟩ | ⟨i, rfl, hi, _⟩
            · rw [rem_neg, rem_pos]; omega
            · rw [rem_pos, rem_pos]; omega
end Go.Proofs.YtfgpadkoonogpaaDoor.Br

namespace Go.Proofs.YtfgpadkoonogpaaDoor.Br
open Go.RowKit Bit Wd Hp Ar
set_option linter.unusedSimpArgs false
set_option linter.unusedVariables false

def NextIs (bb U : Nat) (B : HB) (ls : List (List Int)) (σ : HS) (w : World) (e : Ending) (w' : World) : Prop :=
  (e = .returned (.tuple #[.int .i64 0, .int .i64 0, .bool false]) ∧ (∀ j, U.testBit j = false) ∧ w = w') ∨
  ∃ (j g : Nat) (σ' : HS), e = .returned (.tuple #[.int .i64 (j : Int), .int .i64 (g : Int), .bool true]) ∧ j < 64 ∧ U.testBit j = true ∧ (∀ i, i < j → U.testBit i = false) ∧ BrAt w' bb (rm U j) ∧ Sw1 σ j g σ' ∧ HpAt w' B ls σ' ∧ Kept (fun i => i = bb ∨ HFoot B σ i) w w' ∧ ∀ i, HFoot B σ' i → HFoot B σ i
theorem next_any (bb U : Nat) (B : HB) (ls : List (List Int)) (σ : HS) (w : World) (h : BrAt w bb U) (hp : HpAt w B ls σ) (hT : Pg.Tab w) (hT2 : Tz.Tab w) (hf : ¬ HFoot B σ bb) (hz : B.z ≤ bb) (ht : 0 < B.z) :
    Calls Tryd.prog 35 #[.pointer (some ⟨bb, 0, none⟩), .pointer (some ⟨B.b, 0, none⟩)] w (NextIs bb U B ls σ w) := by
  have H := Lib.hid h
  have HP := Lib.hid hp
  have HT := Lib.hid hT
  have HT2 := Lib.hid hT2
  have HF := Lib.hid hf
  clear h hp hT hT2 hf
  go_enter Tryd.func35, Tryd.ntmps35
  go_wp2_with fail
  refine (take_any bb U 0 _ H.out (by omega) HT2.out).mono ?_
  rintro e w1 ⟨r, rfl, hr, rfl⟩
  dsimp only
  rcases hr with ⟨rfl, hno⟩ | ⟨j, rfl, hfj, hj, hno⟩
  · have HNO := Lib.hid hno
    clear hno
    go_wp2_with fail
    go_ret3
    exact .inl ⟨rfl, fun i => HNO.out i (by omega), rfl⟩
  · have hj64 := bit_lt H.out.lt hj
    have hj0 : ¬ (j : Int) < 0 := by omega
    have HNO := Lib.hid hno
    have HJ := Lib.hid hj
    clear hno hj
    go_wp2_with fail
    refine (bsweep_any bb U B ls σ j _ H.out hj64 HP.out HT.out HF.out hz (by omega)).mono ?_
    rintro e w3 ⟨g, σ3, rfl, hb3, hs3, hp3, hk3, hf3⟩
    have HB3 := Lib.hid hb3
    have HS3 := Lib.hid hs3
    have HP3 := Lib.hid hp3
    have HK3 := Lib.hid hk3
    have HF3 := Lib.hid hf3
    clear hb3 hs3 hp3 hk3 hf3
    dsimp only
    go_wp2_with fail
    go_ret3
    exact .inr ⟨j, g, σ3, rfl, hj64, HJ.out, fun i hi => HNO.out i (by omega) hi, HB3.out, HS3.out, HP3.out, HK3.out, HF3.out⟩
end Go.Proofs.YtfgpadkoonogpaaDoor.Br

namespace Go.Proofs.YtfgpadkoonogpaaDoor.Br
open Go.RowKit Bit Wd Hp Ar
set_option linter.unusedSimpArgs false
set_option linter.unusedVariables false

/-- The pages of p were swept. -/
structure SwP (σ : HS) (p : Nat → Bool) (g : Nat) (σ' : HS) : Prop where
  sub : Sub σ' σ
  len : σ'.ps.length = σ.ps.length
  M : ∀ i s, σ'.M i s = if p i then sw1 (σ.M i s) else σ.M i s
  num : num σ' + g = num σ
  other : ∀ i, p i = false → σ'.ps[i]? = σ.ps[i]?
  ws : σ'.ws = σ.ws
  sr : σ'.sr = σ.sr
  gv : σ'.gv = σ.gv
  pg : ∀ i, p i = true → PgX σ σ' i
theorem SwP.start (σ : HS) : SwP σ (fun _ => false) 0 σ := ⟨Sub.refl σ, rfl, fun i s => by simp, rfl, fun _ _ => rfl, rfl, rfl, rfl, fun i hi => by cases hi⟩
theorem SwP.step {σ σ' σ'' : HS} {p : Nat → Bool} {g k n : Nat} (h : SwP σ p g σ') (hk : p k = false) (hs : Sw1 σ' k n σ'') : SwP σ (fun i => p i || decide (i = k)) (g + n) σ'' := by
  refine ⟨hs.sub.trans h.sub, hs.len.trans h.len, fun i s => ?_, by have := hs.num; have := h.num; omega, fun i hi => ?_, hs.ws.trans h.ws, hs.sr.trans h.sr, hs.gv.trans h.gv, fun i hi => ?_⟩
  · rw [hs.M, h.M]
    by_cases e : i = k
    · subst e
      simp [hk]
    · simp [e]
  · rw [Bool.or_eq_false_iff] at hi
    have e : i ≠ k := by simpa using hi.2
    exact (hs.other i e).trans (h.other i hi.1)
  · by_cases e : i = k
    · subst e
      exact hs.pg.to (h.other i hk)
    · have hi : p i = true := by simpa [e] using hi
      exact (h.pg i hi).on (hs.other i e) fun s => by rw [hs.M, if_neg e]
theorem SwP.eq {σ σ' : HS} {p q : Nat → Bool} {g : Nat} (h : SwP σ p g σ') (e : ∀ i, p i = q i) : SwP σ q g σ' := by
  have : p = q := funext e
  exact this ▸ h
/-- What is behind Rest. -/
def RestIs (bb U : Nat) (B : HB) (ls : List (List Int)) (σ : HS) (w : World) (e : Ending) (w' : World) : Prop :=
  ∃ (g : Nat) (σ' : HS), e = .returned (.int .i64 (g : Int)) ∧ BrAt w' bb 0 ∧ SwP σ U.testBit g σ' ∧ HpAt w' B ls σ' ∧ Kept (fun i => i = bb ∨ HFoot B σ i) w w' ∧ ∀ i, HFoot B σ' i → HFoot B σ i
theorem zero_of {U : Nat} (h : ∀ i, U.testBit i = false) : U = 0 := Nat.eq_of_testBit_eq fun i => by rw [h, Nat.zero_testBit]
theorem rest_any (bb U : Nat) (B : HB) (ls : List (List Int)) (σ : HS) (w : World) (h : BrAt w bb U) (hp : HpAt w B ls σ) (hT : Pg.Tab w) (hT2 : Tz.Tab w) (hf : ¬ HFoot B σ bb) (hz : B.z ≤ bb) (ht : 0 < B.z) (ht2 : 1 < B.z) (hn : num σ ≤ 1000000) :
    Calls Tryd.prog 37 #[.pointer (some ⟨bb, 0, none⟩), .pointer (some ⟨B.b, 0, none⟩)] w (RestIs bb U B ls σ w) := by
  have H := Lib.hid h
  have HP := Lib.hid hp
  have HT := Lib.hid hT
  have HT2 := Lib.hid hT2
  have HF := Lib.hid hf
  have HN := Lib.hid hn
  have HSZ := Lib.hid (show ∀ i, i = bb ∨ HFoot B σ i → B.z ≤ i from fun i hi => by
    rcases hi with rfl | hi
    · exact hz
    · exact hp.new i hi)
  clear h hp hT hT2 hf hn
  go_enter Tryd.func37, Tryd.ntmps37
  go_wp2_with fail
  refine (take_any bb U 0 _ H.out (by omega) HT2.out).mono ?_
  rintro e w1 ⟨r, rfl, hr, rfl⟩
  have HR := Lib.hid hr
  clear hr
  dsimp only
  go_wp2_with fail
  go_loopw [5, 6] (fun nv kv wr => ∃ (r : Int) (U' g : Nat) (σ' : HS) (p : Nat → Bool), kv = .int .i64 r ∧ nv = .int .i64 (g : Int) ∧ Tz.Nxt U'.testBit 0 r ∧ BrAt wr bb U' ∧ HpAt wr B ls σ' ∧ SwP σ p g σ' ∧ Kept (fun i => i = bb ∨ HFoot B σ i) w wr ∧ (∀ i, HFoot B σ' i → HFoot B σ i) ∧
    ∀ i, U.testBit i = (U'.testBit i || p i) ∧ (p i = true → U'.testBit i = false)) (fun _ kv _ => rem 64 kv)
  case atStart => exact ⟨r, U, 0, σ, fun _ => false, rfl, rfl, HR.out, H.out, HP.out, SwP.start σ, Kept.refl _ _, fun i hi => hi, fun i => ⟨by simp, fun h => by cases h⟩⟩
  case round =>
    clear HR
    obtain ⟨r, U', g, σ', p, rfl, rfl, hr, hb, hp, hs, hk, hft, hbits⟩ := hrel
    have HB1 := Lib.hid hb
    have HP1 := Lib.hid hp
    have HS1 := Lib.hid hs
    have HK1 := Lib.hid hk
    have HFT := Lib.hid hft
    have HBI := Lib.hid hbits
    have HT1 := Lib.hid (HT.out.kept hk (fun e => by have := HSZ.out _ e; omega))
    have HT21 := Lib.hid (HT2.out.kept hk (fun e => by have := HSZ.out _ e; omega))
    clear hb hp hs hk hft hbits
    rcases hr with ⟨rfl, hno⟩ | ⟨j, rfl, hfj, hj, hno⟩
    · have h0 := zero_of fun i => hno i (Nat.zero_le _)
      subst h0
      have HNO := Lib.hid hno
      clear hno
      go_wp2_with fail
      go_ret
      refine ⟨g, σ', rfl, HB1.out, HS1.out.eq fun i => ?_, HP1.out, HK1.out, HFT.out⟩
      rw [(HBI.out i).1, Nat.zero_testBit, Bool.false_or]
    · have hj64 := bit_lt HB1.out.lt hj
      have hj0 : ¬ (j : Int) < 0 := by omega
      have HJ := Lib.hid hj
      have HNO := Lib.hid hno
      have hgn := HS1.out.num
      have hN := HN.out
      clear hno hj
      go_wp2_with fail
      refine (bsweep_any bb U' B ls σ' j _ HB1.out hj64 HP1.out HT1.out (fun e => HF.out (HFT.out bb e)) hz (by omega)).mono ?_
      rintro e w3 ⟨n, σ3, rfl, hb3, hs3, hp3, hk3, hf3⟩
      have HB3 := Lib.hid hb3
      have HP3 := Lib.hid hp3
      have hpj : p j = false := by
        rcases hpj : p j with _ | _
        · rfl
        · have := (HBI.out j).2 hpj
          rw [HJ.out] at this; cases this
      have HS3 := Lib.hid (HS1.out.step hpj hs3)
      have hk3' : Kept (fun i => i = bb ∨ HFoot B σ i) wr w3 := hk3.wide (fun i _ e => e.imp id (HFT.out i))
      have HK3 := Lib.hid (HK1.out.trans hk3')
      have HF3 := Lib.hid (fun i hi => HFT.out i (hf3 i hi))
      have HT23 := Lib.hid (HT21.out.kept hk3' (fun e => by have := HSZ.out _ e; omega))
      have HBT := Lib.hid (rm_bit (k := j) HB1.out.lt hj64)
      have HBI3 := Lib.hid (show ∀ i, U.testBit i = ((rm U' j).testBit i || (p i || decide (i = j))) ∧ ((p i || decide (i = j)) = true → (rm U' j).testBit i = false) from fun i => by
        rw [HBT.out]
        by_cases e : i = j
        · subst e
          have := (HBI.out i).1
          rw [HJ.out] at this
          simpa using this
        · have h1 := (HBI.out i).1
          have h2 := (HBI.out i).2
          simp [e]
          exact ⟨h1, h2⟩)
      have hgn3 := HS3.out.num
      clear hb3 hp3 hk3 hk3' hf3 hs3
      dsimp only
      go_wp2_with fail
      refine (take_any bb (rm U' j) 0 _ HB3.out (by omega) HT23.out).mono ?_
      rintro e w5 ⟨r2, rfl, hr2, rfl⟩
      have HR2 := Lib.hid hr2
      clear hr2
      dsimp only
      go_wp2_with fail
      go_roundw
      case rel => exact ⟨r2, rm U' j, g + n, σ3, _, rfl, by go_num, HR2.out, HB3.out, HP3.out, HS3.out, HK3.out, HF3.out, HBI3.out⟩
      case measure =>
        rcases HR2.out with ⟨rfl, _⟩ | ⟨i, rfl, _, hi, _⟩
        · rw [rem_neg, rem_pos]; omega
        · have h1 : i ≠ j := by
            rintro rfl
            rw [HBT.out] at hi
            simp at hi
          have h2 : ¬ i < j := fun hlt => by
            rw [HBT.out, Bool.and_eq_true] at hi
            have := HNO.out i (Nat.zero_le _) hlt
            rw [this] at hi
            cases hi.1
          rw [rem_pos, rem_pos]; omega
end Go.Proofs.YtfgpadkoonogpaaDoor.Br
