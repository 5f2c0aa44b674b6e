/- Package tint: the words of an object's fields that point: the contract of pointers. -/
import Derived.Test.YtoajbjeiplolnaaDoorRTi
namespace Go.Proofs.YtoajbjeiplolnaaDoorR.Shp
open Go.RowKit
theorem pt_bit (l : List Int) (k : Nat) : ∀ n, (pt l n).testBit k = (decide (k < n) && (decide (k < 16) && ((l[k]?).map isP == some true)))
  | 0 => by simp [pt]
  | n + 1 => by
    have hlt := pt_lt l n
    have ih := pt_bit l k n
    unfold pt
    by_cases hc : n < 16 ∧ (l[n]?).map isP = some true
    · rw [if_pos hc]
      by_cases hk : k = n
      · subst hk
        rw [Nat.add_comm, Nat.testBit_two_pow_add_eq, Nat.testBit_lt_two_pow hlt]
        simp [hc.1, hc.2]
      · by_cases hlk : k < n
        · rw [Nat.add_comm, Nat.testBit_two_pow_add_gt hlk, ih]
          simp [hlk, Nat.lt_succ_of_lt hlk]
        · have h1 : ¬ k < n + 1 := by omega
          rw [Nat.testBit_lt_two_pow]
          · simp [h1]
          · have : 2 ^ (n + 1) ≤ 2 ^ k := Nat.pow_le_pow_right (by decide) (by omega)
            rw [Nat.pow_succ] at this
            omega
    · rw [if_neg hc, Nat.add_zero, ih]
      by_cases hk : k = n
      · subst hk
        have : ¬ k < k := by omega
        simp only [this, decide_false, Bool.false_and, Nat.lt_succ_self, decide_true, Bool.true_and]
        rw [eq_comm, Bool.and_eq_false_iff]
        by_cases h16 : k < 16
        · right
          rw [beq_eq_false_iff_ne]
          exact fun e => hc ⟨h16, e⟩
        · left
          simpa using h16
      · have : k < n ↔ k < n + 1 := by omega
        simp [this]
theorem pt_max (l : List Int) {n : Nat} (hn : n ≤ 16) : pt l n < 65536 := by
  have h1 := pt_lt l n
  have h2 : 2 ^ n ≤ 2 ^ 16 := Nat.pow_le_pow_right (by decide) hn
  omega
/-- The bit of one field, as the code asks for it. -/
theorem bit_ask {o : Nat} (k : Nat) (ho : o < 65536) : bits .and .u16 ((o : Int) / (2 : Int) ^ k) 1 = if o.testBit k then 1 else 0 := by
  have e1 : (o : Int) / (2 : Int) ^ k = ((o / 2 ^ k : Nat) : Int) := by
    rw [Int.natCast_ediv]
    simp
  rw [e1]
  have hq : o / 2 ^ k ≤ o := Nat.div_le_self _ _
  have ht : o.testBit k = decide (o / 2 ^ k % 2 = 1) := by
    rw [Nat.testBit_eq_decide_div_mod_eq]
  rw [ht]
  generalize o / 2 ^ k = y at *
  unfold bits
  have ha : (BitVec.ofInt IntKind.u16.bits (y : Int)).toNat = y := by
    show (BitVec.ofInt 16 (y : Int)).toNat = y
    simp
    omega
  have hb : (BitVec.ofInt IntKind.u16.bits (1 : Int)).toNat = 1 := by decide
  dsimp only
  rw [BitVec.toNat_and, ha, hb, Nat.and_one_is_mod]
  unfold IntKind.wrap
  simp [IntKind.bits, IntKind.signed]
  by_cases hy : y % 2 = 1
  · rw [if_pos hy]; omega
  · rw [if_neg hy]; omega
end Go.Proofs.YtoajbjeiplolnaaDoorR.Shp
namespace Go.Proofs.YtoajbjeiplolnaaDoorR.Tn
open Go.RowKit Ar Hp
set_option linter.unusedSimpArgs false
set_option linter.unusedVariables false

/-- The words of the first fields that point. -/
def pk (l ws : List Int) (a : Int) : Nat → List Int
  | 0 => []
  | n + 1 => pk l ws a n ++ if (l[n]?).map Shp.isP = some true then [ws.getD (a + (n : Int) - 1048576).toNat 0] else []
theorem pk_len (l ws : List Int) (a : Int) : ∀ n, (pk l ws a n).length ≤ n
  | 0 => Nat.le_refl _
  | n + 1 => by
    have := pk_len l ws a n
    unfold pk
    rw [List.length_append]
    split <;> simp <;> omega
/-- The words that point of an object's fields. -/
def ptrs (ls : List (List Int)) (σ : HS) (a : Int) : List Int :=
  match hat σ a with
  | none => []
  | some (k, s) => pk (ls.getD ((σ.M k s).getD (0, 0, 0)).1.toNat []) σ.ws a (nfl ls σ k s)
theorem Evo.ptrs_ {σ σ' : HS} (h : Evo σ σ') (ls : List (List Int)) (a : Int) : ptrs ls σ' a = ptrs ls σ a := by
  unfold ptrs
  rw [h.hat_, h.ws]
  split
  · rfl
  · rename_i k s _
    have h1 := h.th k s
    unfold nfl
    rcases hm : σ.M k s with _ | t <;> rcases hm' : σ'.M k s with _ | t' <;> rw [hm, hm'] at h1
    · cases h1
    · cases h1
    · have h1 : some (sh2 t') = some (sh2 t) := h1
      have h1 := Option.some.inj h1
      unfold sh2 at h1
      injection h1 with h1 h2
      simp only [Option.getD_some]
      rw [h1]
set_option maxHeartbeats 1000000 in
set_option maxRecDepth 100000 in
theorem pointers_any (B : HB) (ls : List (List Int)) (σ : HS) (a : Int) (k s : Nat) (zs : Nat) (sa : Option Addr) (sc : Nat) (w : World) (h : HpAt w B ls σ) (ha : a ≤ 9223372036854775807) (hh : hat σ a = some (k, s)) (hS : Shp.RS w zs sa ls.length sc ls) (hz : zs ≤ w.heap.size) :
    Calls Tryd.prog 110 #[.pointer (some ⟨B.b, 0, none⟩), .int .i64 a, .slice sa ls.length sc] w (ListsI (ptrs ls σ a) w) := by
  obtain ⟨i0, hi0, hz0, hz1, hz2⟩ := info_parts Pg.infoI
  have HI := Lib.hid (⟨hi0, hz0, hz1, hz2⟩ : Tryd.prog.info? 3 = some i0 ∧ i0.zero = some (.int .i64 0) ∧ i0.size = 1 ∧ i0.bytes = 8)
  have H := Lib.hid h
  have HH := Lib.hid hh
  have HS := Lib.hid hS
  clear hi0 hz0 hz1 hz2 h hh hS
  go_enter Tryd.func110, Tryd.ntmps110
  go_wp2_with fail
  refine (object_any B ls σ a _ H.out ha).mono ?_
  rintro e w1 (⟨h1, _⟩ | ⟨k', s', t, A3, c3, h1, h2, rfl, ho, hb1⟩)
  · rw [HH.out] at h1; cases h1
  have hks := h1.symm.trans HH.out
  have hks := Option.some.inj hks
  injection hks with e1 e2
  subst e1 e2
  obtain ⟨_, p, hp, _⟩ := hat_addr H.out HH.out
  obtain ⟨j, l, htj, hlj, hnl, hl1, _⟩ := nfl_is H.out h2 hp
  have HLJ := Lib.hid hlj
  have HPT := Lib.hid (show ptrs ls σ a = pk l σ.ws a l.length by
    unfold ptrs
    rw [HH.out]
    dsimp only
    rw [hnl, h2]
    simp only [Option.getD_some]
    rw [htj, Int.toNat_natCast, List.getD, hlj]
    rfl)
  have HFL := Lib.hid (show ∀ i, i < l.length → (flds ls σ a k' s')[i]? = some (σ.ws.getD (a + (i : Int) - 1048576).toNat 0) from fun i hi => by
    unfold flds
    rw [hnl]
    simp [hi])
  have hjl := (List.getElem?_eq_some_iff.1 hlj).1
  have hl16 := (H.out.len l (List.mem_of_getElem? hlj)).2
  have hjl2 : (j : Int) < (ls.length : Int) := by omega
  rw [hnl] at ho ⊢
  rw [htj]
  have HO1 := Lib.hid ho
  generalize (t.2.2 != 0) = mk
  generalize t.2.1 = se
  generalize flds ls σ a k' s' = fl at *
  have hnew := Blk.new w1 #[.int .i64 a, .int .i64 (j : Int), .int .i64 se, .slice A3 l.length c3, .bool mk] 68
  have hb2 := fresh_alloc hb1 (.cells #[.int .i64 a, .int .i64 (j : Int), .int .i64 se, .slice A3 l.length c3, .bool mk] 68)
  have HB2 := Lib.hid hb2
  have HO2 := Lib.hid (ho.alloc (.cells #[.int .i64 a, .int .i64 (j : Int), .int .i64 se, .slice A3 l.length c3, .bool mk] 68))
  have HS2 := Lib.hid (show Shp.RS (w1.alloc (.cells #[.int .i64 a, .int .i64 (j : Int), .int .i64 se, .slice A3 l.length c3, .bool mk] 68)) zs sa ls.length sc ls from rs_same HS.out fun i hi => hb2.block i (by omega))
  obtain ⟨sb, so, A4, c4, hsa, hsb, hcs, hri, _⟩ := HS2.out.2.2.2 j l HLJ.out
  have HRI := Lib.hid hri
  have HNW := Lib.hid hnew
  have q1 := hnew.cell 1
  have q3 := hnew.cell 3
  have hz1 := hb1.size
  subst hsa
  have hsb2 : sb < w1.heap.size + 1 := by omega
  clear h1 h2 hp hlj hnl htj ho hb1 hb2 hnew hri HO1
  dsimp only
  go_wp2_with fail
  refine (Shp.pointers_any _ zs A4 l.length c4 l HRI.out (by simp; omega)).mono ?_
  rintro e w5 ⟨rfl, hb5⟩
  have hb05 := fresh_call HB2.out hb5
  have HB5 := Lib.hid hb05
  have HO5 := Lib.hid (own_block HO2.out fun k hk => hb5.block k (HO2.out.lt k hk).2)
  have q35 := (HNW.out.call hb5).cell 3
  have hsz5 : w1.heap.size < w5.heap.size := by have := hb5.size; simp at this; omega
  have hpm := Shp.pt_max l hl16
  have HPB := Lib.hid (fun i => Shp.pt_bit l i l.length)
  obtain ⟨pb, hpb⟩ : ∃ pb, Shp.pt l l.length = pb := ⟨_, rfl⟩
  rw [hpb] at HPB hpm ⊢
  have HPM := Lib.hid hpm
  clear hb5 hb05 q1 q3 hcs HS2 HRI HO2 HB2 HNW hpb hpm
  dsimp only
  go_wp2_with fail
  go_loopw [9, 11, 12, 37] (fun v _ _ iv wr => ∃ (q : Nat) (a' : Option Addr) (c' : Nat), q ≤ l.length ∧ iv = .int .i64 (q : Int) ∧ v = .slice a' (pk l σ.ws a q).length c' ∧ wr.ownsRow w.heap.size 3 1 (.slice a' (pk l σ.ws a q).length c') (pk l σ.ws a q).length (ints' (pk l σ.ws a q)) ∧ Below w.heap.size w wr ∧
    wr.ownsRow w.heap.size 3 1 (.slice A3 l.length c3) l.length (fl.map (.int .i64)) ∧ (∀ k, (Value.slice a' (pk l σ.ws a q).length c').ownBlock = some k → ∀ g, (Value.slice A3 l.length c3).ownBlock = some g → k ≠ g)) (fun _ _ _ iv _ => l.length - (intOf iv).toNat)
  case atStart => exact ⟨0, none, 0, Nat.zero_le _, rfl, rfl, World.ownsRow_nil _ _ _ _, HB5.out, HO5.out, fun k hk => by cases hk⟩
  case round =>
    clear HB5 HO5
    obtain ⟨q, a', c', hq, rfl, rfl, ho, hb, hof, hv⟩ := hrel
    have HO := Lib.hid ho
    have HB := Lib.hid hb
    have HOF := Lib.hid hof
    have HV := Lib.hid hv
    have hpl := pk_len l σ.ws a q
    clear ho hb hof hv
    by_cases hql : q < l.length
    · have hql2 : (q : Int) < (l.length : Int) := by omega
      have hq0 : (0 : Int) ≤ (q : Int) := by omega
      have hq16 : (q : Int) < 16 := by omega
      obtain ⟨x, hx⟩ : ∃ x, σ.ws.getD (a + (q : Int) - 1048576).toNat 0 = x := ⟨_, rfl⟩
      have hfx := HFL.out q hql
      rw [hx] at hfx
      obtain ⟨g, rfl⟩ : ∃ g, A3 = some ⟨g, 0, none⟩ := by
        rcases HOF.out.2 with ⟨_, h⟩ | ⟨g, cap, _, h, _⟩
        · exfalso; omega
        · injection h with h3; exact ⟨g, h3⟩
      have hcell := HOF.out.cells (g := g) rfl q (.int .i64 x) (by simp [hfx])
      rw [add_form] at hcell
      have hcell : wr.cell? ⟨g, q, none⟩ = some (.int .i64 x) := by simpa using hcell
      have hask := Shp.bit_ask q HPM.out
      have hpb := HPB.out q
      have HPS := Lib.hid (show pk l σ.ws a (q + 1) = pk l σ.ws a q ++ if (l[q]?).map Shp.isP = some true then [x] else [] by
        rw [← hx]; rfl)
      clear hfx
      by_cases hp : (l[q]?).map Shp.isP = some true
      · rw [if_pos hp] at HPS
        have hb1 : pb.testBit q = true := by
          rw [hpb, decide_eq_true hql, decide_eq_true (show q < 16 by omega), hp]
          rfl
        rw [hb1, if_pos rfl] at hask
        have HLN := Lib.hid (show (pk l σ.ws a (q + 1)).length = (pk l σ.ws a q).length + 1 by rw [HPS.out]; simp)
        have hsz := HB.out.size
        clear hpb hb1 hp hx
        obtain ⟨P, hP⟩ : ∃ P, pk l σ.ws a q = P := ⟨_, rfl⟩
        rw [hP] at HO HV hpl HPS HLN ⊢
        clear hP
        go_wp2_with (first
          | (at_builtin; go_loud (refine wpList_app _ rfl _ _ 27 rfl w.heap.size 3 i0 (.int .i64 0) 1 8 Tryd.underlying27 HI.out.1 HI.out.2.1 HI.out.2.2.1 HI.out.2.2.2 rfl (by decide) _ _ _ rfl (HO.out.alloc _) (wr.heap.size + 1) _ 1 1 [.int .i64 x] rfl (Blk.reads (Blk.new wr _ _) (by simp) rfl rfl (by decide)) ?c1 ?c2 ?c3 ?c4 ?_))
          | fail)
        case c1 => intro u hu; simp at hu; subst hu; rfl
        case c2 => unfold maxLen; omega
        case c3 => omega
        case c4 => (try simp only [World.size_alloc]); omega
        intro a4 c4 w6 ho6 hg6 hat6
        have HO6 := Lib.hid (show w6.ownsRow w.heap.size 3 1 (.slice a4 (pk l σ.ws a (q + 1)).length c4) (pk l σ.ws a (q + 1)).length (ints' (pk l σ.ws a (q + 1))) from by
          rw [HLN.out, HPS.out]; simpa [ints'] using ho6)
        have HB6 := Lib.hid (show Below w.heap.size w w6 from (fresh_alloc HB.out _).grown hg6 (by simp; omega) (fun k hk => (HO.out.lt k hk).1))
        have HOF6 := Lib.hid (own_block (HOF.out.alloc (.cells #[.int .i64 x] 3)) fun k hk => hg6.block k (by have := (HOF.out.lt k hk).2; simp; omega) (fun e => HV.out k e.symm k hk rfl))
        have HV6 := Lib.hid (show ∀ k, (Value.slice a4 (pk l σ.ws a (q + 1)).length c4).ownBlock = some k → ∀ g', (Value.slice (some ⟨g, 0, none⟩) l.length c3).ownBlock = some g' → k ≠ g' from fun k hk g' hg' => by
          rw [HLN.out] at hk
          rcases hat6 with e | e
          · exact HV.out k (e.symm.trans hk) g' hg'
          · have h1 := (HOF.out.lt g' hg').2
            have h2 : k = _ := Option.some.inj (hk.symm.trans e)
            omega)
        clear ho6 hg6 hat6 HO HB HOF HV hcell hask
        go_wp2_with fail
        go_roundw
        case rel => exact ⟨q + 1, a4, c4, by omega, by go_num, by rw [HLN.out], HO6.out, HB6.out, HOF6.out, HV6.out⟩
        case measure => simp [intOf]; omega
      · rw [if_neg hp, List.append_nil] at HPS
        have hb1 : pb.testBit q = false := by
          rw [hpb, Bool.and_eq_false_iff]
          right
          rw [Bool.and_eq_false_iff]
          right
          rw [beq_eq_false_iff_ne]
          exact hp
        rw [hb1] at hask
        have hask : bits .and .u16 ((pb : Int) / (2 : Int) ^ q) 1 = 0 := by simpa using hask
        clear hpb hb1 hp hx
        go_wp2_with fail
        go_roundw
        case rel => exact ⟨q + 1, a', c', by omega, by go_num, by rw [HPS.out], by rw [HPS.out]; exact HO.out, HB.out, HOF.out, by rw [HPS.out]; exact HV.out⟩
        case measure => simp [intOf]; omega
    · obtain rfl : q = l.length := by omega
      have hql2 : ¬ (l.length : Int) < (l.length : Int) := by omega
      go_wp2_with fail
      go_ret
      rw [HPT.out]
      exact ⟨a', c', rfl, HO.out, HB.out⟩
end Go.Proofs.YtoajbjeiplolnaaDoorR.Tn
