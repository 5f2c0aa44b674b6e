/- Package heap: the contracts of Shade, Finish, field, Load, Store. -/
import Derived.Test.YtoajbjeiplolnaaDoorRHp3
namespace Go.Proofs.YtoajbjeiplolnaaDoorR.Hp
open Go.RowKit Pg Ar Tm
set_option linter.unusedSimpArgs false
set_option linter.unusedVariables false

theorem shade_no (B : HB) (ls : List (List Int)) (σ : HS) (addr : Int) (w : World) (h : HpAt w B ls σ) (ha : addr ≤ 9223372036854775807) (hn : ∀ k s t, hat σ addr = some (k, s) → σ.M k s = some t → t.2.2 ≠ 0) :
    Calls Tryd.prog 47 #[.pointer (some ⟨B.b, 0, none⟩), .int .i64 addr] w fun e w' => e = .returned (.bool false) ∧ Below w.heap.size w w' := by
  have H := Lib.hid (turn_no B ls σ addr 0 1 w h ha hn)
  clear h hn
  go_enter Tryd.func47, Tryd.ntmps47
  go_wp2_with fail
  refine H.out.mono ?_
  rintro e w1 ⟨rfl, hb⟩
  dsimp only
  go_wp2_with fail
  go_ret
  exact ⟨rfl, hb⟩
theorem shade_yes (B : HB) (ls : List (List Int)) (σ : HS) (addr : Int) (k s : Nat) (t : Thing) (w : World) (h : HpAt w B ls σ) (ha : addr ≤ 9223372036854775807) (hh : hat σ addr = some (k, s)) (ht : σ.M k s = some t) (hc : t.2.2 = 0) :
    Calls Tryd.prog 47 #[.pointer (some ⟨B.b, 0, none⟩), .int .i64 addr] w fun e w' => e = .returned (.bool true) ∧ HpAt w' B ls { σ with M := put σ.M k s (some (t.1, t.2.1, 1)) } ∧ Kept (fun i => i = B.bm) w w' := by
  have H := Lib.hid (turn_yes B ls σ addr 0 1 k s t w h ha hh ht hc)
  clear h hh ht hc
  go_enter Tryd.func47, Tryd.ntmps47
  go_wp2_with fail
  refine H.out.mono ?_
  rintro e w1 ⟨rfl, h1, hb⟩
  have H1 := Lib.hid h1
  have HB1 := Lib.hid hb
  clear h1 hb
  dsimp only
  go_wp2_with fail
  go_ret
  exact ⟨rfl, H1.out, HB1.out⟩
/-- How many fields an object has. -/
def nfl (ls : List (List Int)) (σ : HS) (k s : Nat) : Nat := (ls.getD ((σ.M k s).getD (0, 0, 0)).1.toNat []).length
/-- Has an object that field? -/
def hasF (ls : List (List Int)) (σ : HS) (addr f : Int) : Bool := match hat σ addr with | none => false | some (k, s) => decide (0 ≤ f) && decide (f < (nfl ls σ k s : Int))
theorem nfl_is {w : World} {B : HB} {ls : List (List Int)} {σ : HS} (h : HpAt w B ls σ) {k s : Nat} {p : PM} {t : Thing} (ht : σ.M k s = some t) (hp : σ.ps[k]? = some (some p)) :
    ∃ (j : Nat) (l : List Int), t.1 = (j : Int) ∧ ls[j]? = some l ∧ nfl ls σ k s = l.length ∧ 1 ≤ l.length ∧ (l.length : Int) ≤ Cls.csz p.c := by
  obtain ⟨l, hl, h0, hc⟩ := h.fit k s t p ht hp
  have hlen := h.len l (List.mem_of_getElem? hl)
  refine ⟨t.1.toNat, l, by omega, hl, ?_, hlen.1, ?_⟩
  · unfold nfl
    rw [ht]
    simp [List.getD, hl]
  · have := (Cls.cof_csz (n := (l.length : Int)) (by omega)).2
    rwa [hc] at this
theorem rs_at {w : World} {B n c : Nat} {A : Option Addr} {ls : List (List Int)} (h : Shp.RS w B A n c ls) {j : Nat} {l : List Int} (hl : ls[j]? = some l) : ∃ b off A' c', A = some ⟨b, off, none⟩ ∧ b < B ∧ w.cell? ⟨b, off + j, none⟩ = some (.slice A' l.length c') := by
  obtain ⟨b, off, A', c', h1, h2, h3, _⟩ := h.2.2.2 j l hl
  exact ⟨b, off, A', c', h1, h2, h3⟩
set_option maxRecDepth 100000 in
theorem field_any (B : HB) (ls : List (List Int)) (σ : HS) (addr f : Int) (w : World) (h : HpAt w B ls σ) (ha : addr ≤ 9223372036854775807) :
    Calls Tryd.prog 103 #[.pointer (some ⟨B.b, 0, none⟩), .int .i64 addr, .int .i64 f] w fun e w' => e = .returned (.bool (hasF ls σ addr f)) ∧ Below w.heap.size w w' := by
  have H := Lib.hid h
  unfold hasF
  rcases hh : hat σ addr with _ | ⟨k, s⟩
  · have HH := Lib.hid hh
    clear h hh
    go_enter Tryd.func103, Tryd.ntmps103
    go_wp2_with fail
    refine (at_any B ls σ addr _ H.out ha).mono ?_
    rw [HH.out]
    rintro e w1 ⟨rfl, hb⟩
    have HB1 := Lib.hid (fresh_alloc hb (.cells #[.int .i64 0, .int .i64 0] 138))
    clear hb
    dsimp only [atv]
    go_wp2_with fail
    generalize w1.alloc (.cells #[.int .i64 0, .int .i64 0] 138) = W at *
    refine Ext.region W (by kernel_rfl) (by kernel_rfl) (Below.refl _ _) ?_
    repeat (first | (go_big_quiet_step (fail)))
    refine wpQuiet_nil ?_
    rintro _ ⟨x, rfl⟩
    have HBX := Lib.hid (fresh_call HB1.out x.below)
    go_wp2_with fail
    go_ret
    exact ⟨rfl, HBX.out⟩
  · obtain ⟨p, z, f', g, h1, h2, h3, h4, h5, h6, h7, h8, h9, h10, h11, h12, h13, h14, h15, h16, h17, h18, h19, h20, h21⟩ := hat_some h hh
    obtain ⟨t, ht⟩ := Option.isSome_iff_exists.1 h21
    obtain ⟨j, l, hj, hl, hn, hl1, hl2⟩ := nfl_is h ht h3
    dsimp only
    rw [hn]
    have HH := Lib.hid hh
    have HT := Lib.hid ht
    have HK := Lib.hid h10
    have HS2 := Lib.hid h11
    have HJ := Lib.hid hj
    have HL := Lib.hid hl
    have hjl : j < ls.length := (List.getElem?_eq_some_iff.1 hl).1
    have hjl2 : (j : Int) < (ls.length : Int) := by omega
    have hj0 : (0 : Int) ≤ (j : Int) := by omega
    clear h h1 h2 h3 h4 h5 h6 h7 h8 h9 h10 h11 h12 h13 h14 h15 h16 h17 h18 h19 h20 h21 hh ht hj hl hn hl1 hl2
    by_cases hf : 0 ≤ f
    · have hd0 : decide (0 ≤ f) = true := by simpa using hf
      rw [hd0, Bool.true_and]
      go_enter Tryd.func103, Tryd.ntmps103
      go_wp2_with fail
      refine (at_any B ls σ addr _ H.out ha).mono ?_
      rw [HH.out]
      rintro e w1 ⟨rfl, hb⟩
      have HB1 := Lib.hid (fresh_alloc hb (.cells #[.int .i64 k, .int .i64 s] 138))
      have hN := Blk.new w1 #[.int .i64 k, .int .i64 s] 138
      clear hb
      dsimp only [atv]
      go_wp2_with fail
      generalize w1.alloc (.cells #[.int .i64 k, .int .i64 s] 138) = W at *
      obtain ⟨bp, hbp⟩ : ∃ bp, w1.heap.size = bp := ⟨_, rfl⟩
      rw [hbp] at hN ⊢
      clear hbp
      have H2 := Lib.hid (H.out.call HB1.out)
      obtain ⟨d0, d1, -, -⟩ := hN.two
      obtain ⟨e0, e1, e2, e3, e4⟩ := H2.out.five
      have l0 := H2.out.blk.lt
      have l1 := hN.lt
      have hlk := look_ext H2.out.mp HK.out HS2.out HT.out
      rw [HJ.out] at hlk
      obtain ⟨sb, off, A', c', hSA, hsb, hsc⟩ := rs_at H2.out.sh HL.out
      rw [hSA] at e1
      have hsz : sb < W.heap.size := by have := H2.out.z_lt; omega
      clear hN hSA
      refine Ext.region W (by kernel_rfl) (by kernel_rfl) (Below.refl _ _) ?_
      repeat (first | (go_big_quiet_step (fail)) | (rw [hlk]) | (rw [hd0]))
      refine wpQuiet_nil ?_
      rintro _ ⟨x, rfl⟩
      have HBX := Lib.hid (fresh_call HB1.out x.below)
      clear hlk
      go_wp2_with fail
      go_ret
      exact ⟨rfl, HBX.out⟩
    · have hd0 : decide (0 ≤ f) = false := by simpa using hf
      rw [hd0, Bool.false_and]
      go_enter Tryd.func103, Tryd.ntmps103
      go_wp2_with fail
      refine (at_any B ls σ addr _ H.out ha).mono ?_
      rw [HH.out]
      rintro e w1 ⟨rfl, hb⟩
      have HB1 := Lib.hid (fresh_alloc hb (.cells #[.int .i64 k, .int .i64 s] 138))
      have hN := Blk.new w1 #[.int .i64 k, .int .i64 s] 138
      clear hb
      dsimp only [atv]
      go_wp2_with fail
      generalize w1.alloc (.cells #[.int .i64 k, .int .i64 s] 138) = W at *
      obtain ⟨bp, hbp⟩ : ∃ bp, w1.heap.size = bp := ⟨_, rfl⟩
      rw [hbp] at hN ⊢
      clear hbp
      have H2 := Lib.hid (H.out.call HB1.out)
      obtain ⟨d0, d1, -, -⟩ := hN.two
      obtain ⟨e0, e1, e2, e3, e4⟩ := H2.out.five
      have l0 := H2.out.blk.lt
      have l1 := hN.lt
      have hlk := look_ext H2.out.mp HK.out HS2.out HT.out
      rw [HJ.out] at hlk
      obtain ⟨sb, off, A', c', hSA, hsb, hsc⟩ := rs_at H2.out.sh HL.out
      rw [hSA] at e1
      have hsz : sb < W.heap.size := by have := H2.out.z_lt; omega
      clear hN hSA
      refine Ext.region W (by kernel_rfl) (by kernel_rfl) (Below.refl _ _) ?_
      repeat (first | (go_big_quiet_step (fail)) | (rw [hlk]) | (rw [hd0]))
      refine wpQuiet_nil ?_
      rintro _ ⟨x, rfl⟩
      have HBX := Lib.hid (fresh_call HB1.out x.below)
      clear hlk
      go_wp2_with fail
      go_ret
      exact ⟨rfl, HBX.out⟩
end Go.Proofs.YtoajbjeiplolnaaDoorR.Hp
