/- Package heap: the contracts of Fresh, Class, Given, Color, turn (Shade, Finish), field, Load, Store. -/
import Derived.Test.YtoajbjeiplolnaaDoorRHp2
import Derived.StillTailTactics
import Derived.RegionTactic
namespace Go.Proofs.YtoajbjeiplolnaaDoorR.Hp
open Go.RowKit Pg Ar Tm
set_option linter.unusedSimpArgs false
set_option linter.unusedVariables false

theorem fresh_any (B : HB) (ls : List (List Int)) (σ : HS) (c : Int) (n : Nat) (w : World) (h : HpAt w B ls σ) (hn : Cls.csl c = (n : Int)) (h0 : 0 < n) :
    Calls Tryd.prog 39 #[.pointer (some ⟨B.b, 0, none⟩), .int .i64 c] w (Fr B ls σ c n w) := by
  have H := Lib.hid h
  have HN := Lib.hid hn
  obtain ⟨c0, c1, c2, c3, c4⟩ := h.five
  clear h hn
  go_enter Tryd.func39, Tryd.ntmps39
  go_wp2_with fail
  refine (none_any B ls σ _ H.out).mono ?_
  rintro e w1 ⟨rfl, rfl⟩
  dsimp only
  go_wp2_with fail
  refine (grow_any _ _ _ _ _ c n _ H.out.ar HN.out h0).mono ?_
  intro e w1 hg
  have hf := grew_hp H.out hg
  obtain ⟨r, rfl⟩ : ∃ r, e = .returned (.bool r) := by
    rcases hf with ⟨he, _⟩ | ⟨_, _, he, _⟩
    · exact ⟨_, he⟩
    · exact ⟨_, he⟩
  have HF := Lib.hid hf
  clear hg hf
  dsimp only
  go_wp2_with fail
  go_ret
  exact HF.out
theorem given_any (B : HB) (ls : List (List Int)) (σ : HS) (w : World) (h : HpAt w B ls σ) :
    Calls Tryd.prog 42 #[.pointer (some ⟨B.b, 0, none⟩)] w fun e w' => e = .returned (.int .i64 σ.gv) ∧ w = w' := by
  obtain ⟨c0, c1, c2, c3, c4⟩ := h.five
  clear h
  go_enter Tryd.func42, Tryd.ntmps42
  go_wp2_with fail
  go_ret
  exact ⟨rfl, rfl⟩
/-- A page's class, and whether it has a slot that is not used. -/
def kcl (σ : HS) (k : Int) : Value := match Ar.get σ.ps k with | none => .tuple #[.int .i64 (-1), .bool false] | some p => .tuple #[.int .i64 p.c, .bool (decide ((Bit.bl p.U).length < p.n))]
theorem class_any' (B : HB) (ls : List (List Int)) (σ : HS) (k : Int) (w : World) (h : HpAt w B ls σ) :
    Calls Tryd.prog 55 #[.pointer (some ⟨B.b, 0, none⟩), .int .i64 k] w fun e w' => e = .returned (kcl σ k) ∧ ∃ n, w' = w.drewN n := by
  have H := Lib.hid h
  obtain ⟨c0, c1, c2, c3, c4⟩ := h.five
  unfold kcl
  rcases hg : Ar.get σ.ps k with _ | p
  · have HG := Lib.hid hg
    clear h hg
    go_enter Tryd.func55, Tryd.ntmps55
    go_wp2_with fail
    refine (none_any B ls σ _ H.out).mono ?_
    rintro e w1 ⟨rfl, rfl⟩
    dsimp only
    go_wp2_with fail
    refine (page_any _ _ _ _ _ _ _ H.out.ar).mono ?_
    rw [HG.out]
    rintro e w1 ⟨rfl, rfl⟩
    dsimp only [ptr]
    go_wp2_with fail
    refine (count_nil _).mono ?_
    rintro e w1 ⟨rfl, rfl⟩
    dsimp only
    go_wp2_with fail
    refine (class_nil _).mono ?_
    rintro e w1 ⟨rfl, rfl⟩
    dsimp only
    go_wp2_with fail
    go_ret2
    exact ⟨rfl, 0, rfl⟩
  · obtain ⟨j, hj, hjp⟩ := get_some hg
    have HP := Lib.hid (h.ar.page j p hjp).1
    have HG := Lib.hid hg
    clear h hg hj hjp
    go_enter Tryd.func55, Tryd.ntmps55
    go_wp2_with fail
    refine (none_any B ls σ _ H.out).mono ?_
    rintro e w1 ⟨rfl, rfl⟩
    dsimp only
    go_wp2_with fail
    refine (page_any _ _ _ _ _ _ _ H.out.ar).mono ?_
    rw [HG.out]
    rintro e w1 ⟨rfl, rfl⟩
    dsimp only [ptr]
    go_wp2_with fail
    refine (count_any _ _ _ _ _ _ HP.out).mono ?_
    rintro e w1 ⟨rfl, d, rfl⟩
    have HP1 := Lib.hid (HP.out.drewN d)
    dsimp only
    go_wp2_with fail
    refine (class_any _ _ _ _ _ _ HP1.out).mono ?_
    rintro e w1 ⟨rfl, rfl⟩
    dsimp only
    go_wp2_with fail
    go_ret2
    exact ⟨rfl, d, rfl⟩
/-- An object's color. -/
def col (σ : HS) (addr : Int) : Int := match hat σ addr with | none => 0 | some (k, s) => ((σ.M k s).getD (0, 0, 0)).2.2
theorem hat_bd {w : World} {B : HB} {ls : List (List Int)} {σ : HS} (h : HpAt w B ls σ) {addr : Int} {k s : Nat} (e : hat σ addr = some (k, s)) : k < 64 ∧ s < 32 ∧ ∃ t, σ.M k s = some t := by
  obtain ⟨p, z, f, g, h1, h2, h3, h4, h5, h6, h7, h8, h9, h10, h11, h12, h13, h14, h15, h16, h17, h18, h19, h20, h21⟩ := hat_some h e
  exact ⟨h10, h11, Option.isSome_iff_exists.1 h21⟩
@[go_sem] theorem field_shape (w : World) (a b c : Int) : (Instr.field 136 (.agg #[.int .i64 a, .int .i64 b, .int .i64 c]) 0).run Tryd.prog w = .ok (.int .i64 a) w := by kernel_rfl
@[go_sem] theorem field_color (w : World) (a b c : Int) : (Instr.field 136 (.agg #[.int .i64 a, .int .i64 b, .int .i64 c]) 2).run Tryd.prog w = .ok (.int .i64 c) w := by kernel_rfl
theorem look_ext {w : World} {b : Nat} {M : Nat → Nat → Option Thing} (h : TMap w b M) {k s : Nat} {t : Thing} (hk : k < 64) (hs : s < 32) (ht : M k s = some t) (x : Ext w) :
    (Instr.lookup 132 (.map (some b)) (.agg #[.int .i64 k, .int .i64 s]) false).run Tryd.prog x.w = .ok (.agg #[.int .i64 t.1, .int .i64 t.2.1, .int .i64 t.2.2]) x.w := by
  have := (h.block (x.below.block _ h.lt)).look hk hs
  rw [ht] at this
  exact this
set_option maxRecDepth 100000 in
theorem color_any (B : HB) (ls : List (List Int)) (σ : HS) (addr : Int) (w : World) (h : HpAt w B ls σ) (ha : addr ≤ 9223372036854775807) :
    Calls Tryd.prog 51 #[.pointer (some ⟨B.b, 0, none⟩), .int .i64 addr] w fun e w' => e = .returned (.int .i64 (col σ addr)) ∧ Below w.heap.size w w' := by
  have H := Lib.hid h
  unfold col
  rcases hh : hat σ addr with _ | ⟨k, s⟩
  · have HH := Lib.hid hh
    clear h hh
    go_enter Tryd.func51, Tryd.ntmps51
    go_wp2_with fail
    refine (at_any B ls σ addr _ H.out ha).mono ?_
    rw [HH.out]
    rintro e w1 ⟨rfl, hb⟩
    have HB1 := Lib.hid hb
    clear hb
    dsimp only [atv]
    go_wp2_with fail
    go_ret
    exact ⟨rfl, fresh_alloc HB1.out _⟩
  · obtain ⟨hk, hs, t, ht⟩ := hat_bd h hh
    have HH := Lib.hid hh
    have HT := Lib.hid ht
    have HK := Lib.hid hk
    have HS2 := Lib.hid hs
    dsimp only
    rw [ht]
    clear h hh hk hs ht
    go_enter Tryd.func51, Tryd.ntmps51
    go_wp2_with fail
    refine (at_any B ls σ addr _ H.out ha).mono ?_
    rw [HH.out]
    rintro e w1 ⟨rfl, hb⟩
    have HB1 := Lib.hid (fresh_alloc hb (.cells #[.int .i64 k, .int .i64 s] 138))
    have hN := Blk.new w1 #[.int .i64 k, .int .i64 s] 138
    clear hb
    dsimp only [atv]
    go_wp2_with fail
    generalize w1.alloc (.cells #[.int .i64 k, .int .i64 s] 138) = W at *
    obtain ⟨bp, hbp⟩ : ∃ bp, w1.heap.size = bp := ⟨_, rfl⟩
    rw [hbp] at hN ⊢
    clear hbp
    have H2 := Lib.hid (H.out.call HB1.out)
    obtain ⟨d0, d1, -, -⟩ := hN.two
    obtain ⟨e0, e1, e2, e3, e4⟩ := H2.out.five
    have l0 := H2.out.blk.lt
    have l1 := hN.lt
    have hlk := look_ext H2.out.mp HK.out HS2.out HT.out
    clear hN
    refine Ext.region W (by kernel_rfl) (by kernel_rfl) (Below.refl _ _) ?_
    repeat (first | (go_big_quiet_step (fail)) | (rw [hlk]))
    refine wpQuiet_nil ?_
    rintro _ ⟨x, rfl⟩
    have HBX := Lib.hid (fresh_call HB1.out x.below)
    clear hlk
    go_wp2_with fail
    go_ret
    exact ⟨rfl, HBX.out⟩
/-- What is turned: an object of one color gets another one. -/
theorem turn_inv {w : World} {B : HB} {ls : List (List Int)} {σ : HS} (h : HpAt w B ls σ) {k s : Nat} {t u : Thing} (ht : σ.M k s = some t) (hu : u.1 = t.1) :
    (∀ i j, (put σ.M k s (some u) i j).isSome = true ↔ ∃ p, σ.ps[i]? = some (some p) ∧ p.U.testBit j = true) ∧
    (∀ i j v p, put σ.M k s (some u) i j = some v → σ.ps[i]? = some (some p) → ∃ l, ls[v.1.toNat]? = some l ∧ 0 ≤ v.1 ∧ Cls.cof l.length = p.c) := by
  constructor
  · intro i j
    rw [← h.inv i j]
    unfold put
    by_cases e : i = k ∧ j = s
    · obtain ⟨rfl, rfl⟩ := e
      rw [if_pos ⟨rfl, rfl⟩, ht]; rfl
    · rw [if_neg e]
  · intro i j v p hv hp
    unfold put at hv
    by_cases e : i = k ∧ j = s
    · obtain ⟨rfl, rfl⟩ := e
      rw [if_pos ⟨rfl, rfl⟩] at hv
      injection hv with hv
      subst hv
      rw [hu]
      exact h.fit _ _ t p ht hp
    · rw [if_neg e] at hv
      exact h.fit i j v p hv hp
set_option maxRecDepth 100000 in
theorem turn_no (B : HB) (ls : List (List Int)) (σ : HS) (addr c1 c2 : Int) (w : World) (h : HpAt w B ls σ) (ha : addr ≤ 9223372036854775807) (hn : ∀ k s t, hat σ addr = some (k, s) → σ.M k s = some t → t.2.2 ≠ c1) :
    Calls Tryd.prog 104 #[.pointer (some ⟨B.b, 0, none⟩), .int .i64 addr, .int .i64 c1, .int .i64 c2] w fun e w' => e = .returned (.bool false) ∧ Below w.heap.size w w' := by
  have H := Lib.hid h
  rcases hh : hat σ addr with _ | ⟨k, s⟩
  · have HH := Lib.hid hh
    clear h hh hn
    go_enter Tryd.func104, Tryd.ntmps104
    go_wp2_with fail
    refine (at_any B ls σ addr _ H.out ha).mono ?_
    rw [HH.out]
    rintro e w1 ⟨rfl, hb⟩
    have HB1 := Lib.hid (fresh_alloc hb (.cells #[.int .i64 0, .int .i64 0] 138))
    have hN := Blk.new w1 #[.int .i64 0, .int .i64 0] 138
    clear hb
    dsimp only [atv]
    go_wp2_with fail
    generalize w1.alloc (.cells #[.int .i64 0, .int .i64 0] 138) = W at *
    refine Ext.region W (by kernel_rfl) (by kernel_rfl) (Below.refl _ _) ?_
    repeat (first | (go_big_quiet_step (fail)))
    refine wpQuiet_nil ?_
    rintro _ ⟨x, rfl⟩
    have HBX := Lib.hid (fresh_call HB1.out x.below)
    go_wp2_with fail
    go_ret
    exact ⟨rfl, HBX.out⟩
  · obtain ⟨hk, hs, t, ht⟩ := hat_bd h hh
    have hne : (t.2.2 != c1) = true := by simpa using hn k s t hh ht
    have HH := Lib.hid hh
    have HT := Lib.hid ht
    have HK := Lib.hid hk
    have HS2 := Lib.hid hs
    clear h hh hk hs ht hn
    go_enter Tryd.func104, Tryd.ntmps104
    go_wp2_with fail
    refine (at_any B ls σ addr _ H.out ha).mono ?_
    rw [HH.out]
    rintro e w1 ⟨rfl, hb⟩
    have HB1 := Lib.hid (fresh_alloc hb (.cells #[.int .i64 k, .int .i64 s] 138))
    have hN := Blk.new w1 #[.int .i64 k, .int .i64 s] 138
    clear hb
    dsimp only [atv]
    go_wp2_with fail
    generalize w1.alloc (.cells #[.int .i64 k, .int .i64 s] 138) = W at *
    obtain ⟨bp, hbp⟩ : ∃ bp, w1.heap.size = bp := ⟨_, rfl⟩
    rw [hbp] at hN ⊢
    clear hbp
    have H2 := Lib.hid (H.out.call HB1.out)
    obtain ⟨d0, d1, -, -⟩ := hN.two
    obtain ⟨e0, e1, e2, e3, e4⟩ := H2.out.five
    have l0 := H2.out.blk.lt
    have l1 := hN.lt
    have hlk := look_ext H2.out.mp HK.out HS2.out HT.out
    clear hN
    refine Ext.region W (by kernel_rfl) (by kernel_rfl) (Below.refl _ _) ?_
    repeat (first | (go_big_quiet_step (fail)) | (rw [hlk]))
    refine wpQuiet_nil ?_
    rintro _ ⟨x, rfl⟩
    have HBX := Lib.hid (fresh_call HB1.out x.below)
    clear hlk
    go_wp2_with fail
    go_ret
    exact ⟨rfl, HBX.out⟩
set_option maxRecDepth 100000 in
theorem turn_yes (B : HB) (ls : List (List Int)) (σ : HS) (addr c1 c2 : Int) (k s : Nat) (t : Thing) (w : World) (h : HpAt w B ls σ) (ha : addr ≤ 9223372036854775807) (hh : hat σ addr = some (k, s)) (ht : σ.M k s = some t) (hc : t.2.2 = c1) :
    Calls Tryd.prog 104 #[.pointer (some ⟨B.b, 0, none⟩), .int .i64 addr, .int .i64 c1, .int .i64 c2] w fun e w' => e = .returned (.bool true) ∧ HpAt w' B ls { σ with M := put σ.M k s (some (t.1, t.2.1, c2)) } ∧ Kept (fun i => i = B.bm) w w' := by
  have H := Lib.hid h
  obtain ⟨hk, hs, -⟩ := hat_bd h hh
  have HI := Lib.hid (turn_inv h ht (u := (t.1, t.2.1, c2)) rfl)
  subst hc
  have HH := Lib.hid hh
  have HT := Lib.hid ht
  have HK := Lib.hid hk
  have HS2 := Lib.hid hs
  clear h hh hk hs ht
  go_enter Tryd.func104, Tryd.ntmps104
  go_wp2_with fail
  refine (at_any B ls σ addr _ H.out ha).mono ?_
  rw [HH.out]
  rintro e w1 ⟨rfl, hb⟩
  have HB1 := Lib.hid (fresh_alloc hb (.cells #[.int .i64 k, .int .i64 s] 138))
  have hN := Blk.new w1 #[.int .i64 k, .int .i64 s] 138
  clear hb
  dsimp only [atv]
  go_wp2_with fail
  generalize w1.alloc (.cells #[.int .i64 k, .int .i64 s] 138) = W at *
  obtain ⟨bp, hbp⟩ : ∃ bp, w1.heap.size = bp := ⟨_, rfl⟩
  rw [hbp] at hN ⊢
  clear hbp
  have H2 := Lib.hid (H.out.call HB1.out)
  have HN := Lib.hid hN
  obtain ⟨d0, d1, -, -⟩ := hN.two
  obtain ⟨e0, e1, e2, e3, e4⟩ := H2.out.five
  have l0 := H2.out.blk.lt
  have l1 := hN.lt
  have hlk := look_ext H2.out.mp HK.out HS2.out HT.out
  clear hN
  refine Ext.region W (by kernel_rfl) (by kernel_rfl) (Below.refl _ _) ?_
  repeat (first | (go_big_quiet_step (fail)) | (rw [hlk]))
  refine wpQuiet_nil ?_
  rintro _ ⟨x, rfl⟩
  have HBX := Lib.hid (fresh_call HB1.out x.below)
  have H3 := Lib.hid (H2.out.call x.below)
  have HN3 := Lib.hid (HN.out.call x.below)
  clear hlk d0 d1 e0 e1 e2 e3 e4 l0 l1
  generalize x.w = W3 at *
  obtain ⟨d0, d1, -, -⟩ := HN3.out.two
  obtain ⟨e0, e1, e2, e3, e4⟩ := H3.out.five
  have l0 := H3.out.blk.lt
  have l1 := HN3.out.lt
  go_wp2_with fail
  go_upto_region 4 with (fail)
  go_cut [11] from 31 to 36 (fun p wx => ∃ bt, p = .pointer (some ⟨bt, 0, none⟩) ∧ W3.heap.size ≤ bt ∧ Blk wx bt #[.int .i64 t.1, .int .i64 t.2.1, .int .i64 t.2.2] 136 ∧ Below W3.heap.size W3 wx)
  case first =>
    have hl1 := look_ext H3.out.mp HK.out HS2.out HT.out ⟨W3.drew, (Below.refl _ _).drew⟩
    have hl2 := look_ext H3.out.mp HK.out HS2.out HT.out ⟨(W3.alloc (.cells #[.int .i64 0, .int .i64 0, .int .i64 0] 136)).drew, (fresh_alloc (Below.refl _ _) _).drew⟩
    dsimp only at hl1 hl2
    go_region_with (fail)
    all_goals
      go_wp2_with fail
      go_meet
      exact ⟨W3.heap.size, rfl, Nat.le_refl _, Blk.new W3 _ _, (fresh_alloc (Below.refl _ _) _).drew⟩
  case rest =>
    obtain ⟨bt, rfl, hbt, hbl, hbe⟩ := hcut
    have H4 := Lib.hid (H3.out.call hbe)
    have HN4 := Lib.hid (HN3.out.call hbe)
    have HT4 := Lib.hid hbl
    have HBY := Lib.hid (fresh_call HBX.out hbe)
    have l2 := hbl.lt
    have l3 := hbe.size
    obtain ⟨t0, t1, t2, tf0, tf1, tf2⟩ := hbl.three
    clear hbl hbe d0 d1 e0 e1 e2 e3 e4 H3 HN3 H2 HN
    have hz : w.heap.size ≤ bt := by have := HBX.out.size; omega
    have hbp : bp < bt := by omega
    clear l0 l1
    go_wp2_with fail
    have h5b := Blk.of_eq (HT4.out.set 2 (.int .i64 c2)) (cs' := #[.int .i64 t.1, .int .i64 t.2.1, .int .i64 c2]) rfl
    have h5 : Below w.heap.size w (wc.setCell ⟨bt, 2, none⟩ (.int .i64 c2)) := HBY.out.setCell (p := ⟨bt, 2, none⟩) hz _
    have hk : ∀ i, i < bt → (wc.setCell ⟨bt, 2, none⟩ (.int .i64 c2)).heap[i]? = wc.heap[i]? := fun i hi => Below.heap_setCell wc ⟨bt, 2, none⟩ _ i (by simp; omega)
    have H5 := Lib.hid (H.out.call h5)
    have HN5 := Lib.hid (show Blk (wc.setCell ⟨bt, 2, none⟩ (.int .i64 c2)) bp #[.int .i64 k, .int .i64 s] 138 from (hk bp hbp).trans HN4.out)
    have HT5 := Lib.hid h5b
    have HB5 := Lib.hid h5
    clear h5b h5 hk H4 HN4 HT4 HBY t0 t1 t2 tf0 tf1 tf2 l2
    generalize wc.setCell ⟨bt, 2, none⟩ (.int .i64 c2) = W5 at *
    obtain ⟨d0, d1, -, -⟩ := HN5.out.two
    obtain ⟨t0, t1, t2, -, -, -⟩ := HT5.out.three
    obtain ⟨e0, e1, e2, e3, e4⟩ := H5.out.five
    go_still_tail 6, (by kernel_rfl)
    change wpList _ _ _ _ _ W5.drew
    have H6 := Lib.hid (show HpAt W5.drew B ls σ from H5.out.drewN 1)
    have HB6 := Lib.hid (show Below w.heap.size w W5.drew from HB5.out.drew)
    clear d0 d1 t0 t1 t2 e0 e1 e2 e3 e4 H5 HN5 HT5
    generalize W5.drew = W6 at *
    go_wp2_with (first
      | (at_mapUpdate; refine wpList_put rfl _ _ _ rfl (k := k) (s := s) (t.1, t.2.1, c2) rfl rfl rfl H6.out.mp HK.out HS2.out ?_; intro w7 hm7 hg7)
      | fail)
    go_ret
    exact ⟨rfl, H6.out.mapped hm7 hg7 HI.out.1 HI.out.2, (Kept.of_below HB6.out (fun i => i = B.bm)).step (Kept.of_grown hg7) (fun i _ e => Option.some.inj e)⟩
end Go.Proofs.YtoajbjeiplolnaaDoorR.Hp
