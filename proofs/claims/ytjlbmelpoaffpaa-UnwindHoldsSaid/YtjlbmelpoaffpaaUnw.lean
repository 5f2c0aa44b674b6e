/- Package unwind: what a state is in memory; the contracts of slices.Clone at its lists and of own. -/
import Derived.Test.YtjlbmelpoaffpaaProg
import Derived.Test.YtjlbmelpoaffpaaApp2
import Derived.Test.YtjlbmelpoaffpaaExt
import Derived.Deep.OwnRows
import Derived.Deep.RegionHeld3
namespace Go.Proofs.Ytjlbmelpoaffpaa.Unw
open Go.RowKit
set_option linter.unusedSimpArgs false
set_option linter.unusedVariables false

/-- A frame. -/
structure Mk where
  lv : Bool
  df : Bool
  th : Int
/-- An alarm. -/
structure Al where
  code : Int
  ptr : Int
  run : Int
  ex : Bool
  rc : Bool
def Mk.cells (m : Mk) : List Value := [.bool m.lv, .bool m.df, .int .i64 m.th]
def Al.cells (a : Al) : List Value := [.int .i64 a.code, .int .i64 a.ptr, .int .i64 a.run, .bool a.ex, .bool a.rc]
/-- The cells of a list whose last one stands first. -/
def mc : List Mk → List Value
  | [] => []
  | m :: r => mc r ++ m.cells
def ac : List Al → List Value
  | [] => []
  | a :: r => ac r ++ a.cells
theorem mc_length (l : List Mk) : (mc l).length = l.length * 3 := by
  induction l with
  | nil => rfl
  | cons m r ih => simp [mc, Mk.cells, ih]; omega
theorem ac_length (l : List Al) : (ac l).length = l.length * 5 := by
  induction l with
  | nil => rfl
  | cons m r ih => simp [ac, Al.cells, ih]; omega
theorem mc_one (l : List Mk) : ∀ u ∈ mc l, u.oneCell' = true := by
  induction l with
  | nil => intro u hu; cases hu
  | cons m r ih =>
    intro u hu
    rcases List.mem_append.1 hu with h | h
    · exact ih u h
    · simp [Mk.cells] at h
      rcases h with rfl | rfl | rfl <;> rfl
theorem ac_one (l : List Al) : ∀ u ∈ ac l, u.oneCell' = true := by
  induction l with
  | nil => intro u hu; cases hu
  | cons m r ih =>
    intro u hu
    rcases List.mem_append.1 hu with h | h
    · exact ih u h
    · simp [Al.cells] at h
      rcases h with rfl | rfl | rfl | rfl | rfl <;> rfl

theorem infoM : (Try.prog.info? 38).map (fun i => (i.zero, i.size, i.bytes)) = some (some (.agg #[.bool false, .bool false, .int .i64 0]), 3, 16) := by kernel_rfl
theorem infoA : (Try.prog.info? 32).map (fun i => (i.zero, i.size, i.bytes)) = some (some (.agg #[.int .i64 0, .int .i64 0, .int .i64 0, .bool false, .bool false]), 5, 32) := by kernel_rfl

/-- The call gives a row of its own with these cells. -/
def Row (T : TypeId) (size : Nat) (n : Nat) (xs : List Value) (w : World) (e : Ending) (w' : World) : Prop :=
  ∃ A c, e = .returned (.slice A n c) ∧ w'.ownsRow w.heap.size T size (.slice A n c) n xs ∧ Below w.heap.size w w'
theorem own_below {w w' : World} {B : Nat} {v : Value} {n : Nat} {xs : List Value} {e : TypeId} {size : Nat} (h : w.ownsRow B e size v n xs) (hb : Below w.heap.size w w') : w'.ownsRow B e size v n xs :=
  own_block h fun k hk => hb.block k (h.lt k hk).2
theorem own_set {w : World} {B b i : Nat} {v u : Value} {n : Nat} {xs : List Value} {e T : TypeId} {size : Nat} {cs : Array Value} (h : w.ownsRow B e size v n xs) (hb : Blk w b cs T) (hne : e ≠ T) : (w.setCell ⟨b, i, none⟩ u).ownsRow B e size v n xs :=
  h.kept (grown_set w b i u) (.inr (own_ne h hb hne).symm)
theorem own_mono {w : World} {B B' : Nat} {v : Value} {n : Nat} {xs : List Value} {e : TypeId} {size : Nat} (h : w.ownsRow B e size v n xs) (hb : B' ≤ B) : w.ownsRow B' e size v n xs :=
  ⟨h.1, h.2.imp id fun ⟨g, cap, cur, e1, e2, rest⟩ => ⟨g, cap, cur, e1, Nat.le_trans hb e2, rest⟩⟩

set_option maxHeartbeats 400000 in
theorem cloneM (w : World) (B : Nat) (A : Option Addr) (n c : Nat) (l : List Mk) (h : Reads w B 3 A n c (mc l)) (hB : B ≤ w.heap.size) (hl : l.length = n) (hn : n ≤ 1000) :
    Calls Try.prog 25 #[.slice A n c] w (Row 38 3 n (mc l) w) := by
  obtain ⟨i0, hi0, hz0, hz1, hz2⟩ := info_parts infoM
  have HA := Lib.hid h
  have HI := Lib.hid (⟨hi0, hz0, hz1, hz2⟩ : Try.prog.info? 38 = some i0 ∧ i0.zero = some (.agg #[.bool false, .bool false, .int .i64 0]) ∧ i0.size = 3 ∧ i0.bytes = 16)
  have HL := Lib.hid hl
  have hq := fun (w : World) (a : Option Addr) (n c n' c' : Nat) => Lib.run_eql_slice_nil (P := Try.prog) w 23 38 a n c n' c' Try.underlying23
  clear h hi0 hz0 hz1 hz2 hl
  rcases A with _ | ad
  · obtain rfl : n = 0 := by
      rcases Nat.eq_zero_or_pos n with h0 | h0
      · exact h0
      · obtain ⟨b, off, h, _⟩ := HA.out.2.2.2 h0
        cases h
    obtain rfl : l = [] := List.eq_nil_of_length_eq_zero HL.out
    go_enter Try.func25, Try.ntmps25
    go_wp2_with fail
    go_ret
    exact ⟨_, _, rfl, World.ownsRow_nil _ _ _ _, Below.refl _ _⟩
  · go_enter Try.func25, Try.ntmps25
    go_wp2_with (first
      | (at_builtin; go_loud (refine wpList_app _ rfl _ _ 23 rfl w.heap.size 38 i0 _ 3 16 Try.underlying23 HI.out.1 HI.out.2.1 HI.out.2.2.1 HI.out.2.2.2 rfl (by decide) _ 0 [] rfl (World.ownsRow_made w #[] 0 (Nat.le_refl _) (Nat.zero_le _) rfl) B (some ad) n c (mc l) rfl ?c1 (mc_one l) ?c2 ?c3 ?c4 ?_))
      | fail)
    case c1 => exact HA.out.below ((Below.refl B w).alloc hB _)
    case c2 => unfold maxLen; omega
    case c3 => omega
    case c4 => simp
    intro a' c' w2 ho2 hg2 hat2
    have HW := Lib.hid (show Below w.heap.size w w2 from ((Below.refl _ w).alloc (Nat.le_refl _) _).grown hg2 (by simp) (fun k e => by simp [Value.ownBlock] at e; omega))
    try simp only [Nat.zero_add, List.nil_append] at ho2
    have HO := Lib.hid ho2
    clear ho2 hg2 hat2
    go_wp2_with fail
    go_ret
    exact ⟨a', c', rfl, HO.out, HW.out⟩

set_option maxHeartbeats 400000 in
theorem cloneA (w : World) (B : Nat) (A : Option Addr) (n c : Nat) (l : List Al) (h : Reads w B 5 A n c (ac l)) (hB : B ≤ w.heap.size) (hl : l.length = n) (hn : n ≤ 1000) :
    Calls Try.prog 26 #[.slice A n c] w (Row 32 5 n (ac l) w) := by
  obtain ⟨i0, hi0, hz0, hz1, hz2⟩ := info_parts infoA
  have HA := Lib.hid h
  have HI := Lib.hid (⟨hi0, hz0, hz1, hz2⟩ : Try.prog.info? 32 = some i0 ∧ i0.zero = some (.agg #[.int .i64 0, .int .i64 0, .int .i64 0, .bool false, .bool false]) ∧ i0.size = 5 ∧ i0.bytes = 32)
  have HL := Lib.hid hl
  have hq := fun (w : World) (a : Option Addr) (n c n' c' : Nat) => Lib.run_eql_slice_nil (P := Try.prog) w 24 32 a n c n' c' Try.underlying24
  clear h hi0 hz0 hz1 hz2 hl
  rcases A with _ | ad
  · obtain rfl : n = 0 := by
      rcases Nat.eq_zero_or_pos n with h0 | h0
      · exact h0
      · obtain ⟨b, off, h, _⟩ := HA.out.2.2.2 h0
        cases h
    obtain rfl : l = [] := List.eq_nil_of_length_eq_zero HL.out
    go_enter Try.func26, Try.ntmps26
    go_wp2_with fail
    go_ret
    exact ⟨_, _, rfl, World.ownsRow_nil _ _ _ _, Below.refl _ _⟩
  · go_enter Try.func26, Try.ntmps26
    go_wp2_with (first
      | (at_builtin; go_loud (refine wpList_app _ rfl _ _ 24 rfl w.heap.size 32 i0 _ 5 32 Try.underlying24 HI.out.1 HI.out.2.1 HI.out.2.2.1 HI.out.2.2.2 rfl (by decide) _ 0 [] rfl (World.ownsRow_made w #[] 0 (Nat.le_refl _) (Nat.zero_le _) rfl) B (some ad) n c (ac l) rfl ?c1 (ac_one l) ?c2 ?c3 ?c4 ?_))
      | fail)
    case c1 => exact HA.out.below ((Below.refl B w).alloc hB _)
    case c2 => unfold maxLen; omega
    case c3 => omega
    case c4 => simp
    intro a' c' w2 ho2 hg2 hat2
    have HW := Lib.hid (show Below w.heap.size w w2 from ((Below.refl _ w).alloc (Nat.le_refl _) _).grown hg2 (by simp) (fun k e => by simp [Value.ownBlock] at e; omega))
    try simp only [Nat.zero_add, List.nil_append] at ho2
    have HO := Lib.hid ho2
    clear ho2 hg2 hat2
    go_wp2_with fail
    go_ret
    exact ⟨a', c', rfl, HO.out, HW.out⟩

/-- The value is a state: these frames, these alarms, the last ones first. -/
def St (w : World) (v : Value) (ms : List Mk) (al : List Al) : Prop :=
  ∃ A c A' c', v = .agg #[.slice A ms.length c, .slice A' al.length c'] ∧ Reads w w.heap.size 3 A ms.length c (mc ms) ∧ Reads w w.heap.size 5 A' al.length c' (ac al) ∧ ms.length ≤ 1000 ∧ al.length ≤ 1000
/-- The rows of a state are the call's own. -/
def Owned (B : Nat) (w : World) (ms : List Mk) (al : List Al) (A : Option Addr) (c : Nat) (A' : Option Addr) (c' : Nat) : Prop :=
  w.ownsRow B 38 3 (.slice A ms.length c) ms.length (mc ms) ∧ w.ownsRow B 32 5 (.slice A' al.length c') al.length (ac al)
/-- The call gives a state in memory of its own. -/
def Gives (F : Value → Value) (ms : List Mk) (al : List Al) (w : World) (e : Ending) (w' : World) : Prop :=
  ∃ A c A' c', e = .returned (F (.agg #[.slice A ms.length c, .slice A' al.length c'])) ∧ Owned w.heap.size w' ms al A c A' c' ∧ Below w.heap.size w w'

theorem St.of_owned {B : Nat} {w : World} {ms : List Mk} {al : List Al} {A : Option Addr} {c : Nat} {A' : Option Addr} {c' : Nat} (h : Owned B w ms al A c A' c') (hm : ms.length ≤ 1000) (ha : al.length ≤ 1000) :
    St w (.agg #[.slice A ms.length c, .slice A' al.length c']) ms al := ⟨A, c, A', c', rfl, Reads.of_own h.1, Reads.of_own h.2, hm, ha⟩

theorem keepS {b : Nat} {W w w' : World} {x y : Value} (h : Below (b + 1) W w ∧ b + 2 ≤ w.heap.size ∧ w.cell? ⟨b, 0, none⟩ = some x ∧ w.cell? ⟨b, 1, none⟩ = some y) (hb : Below w.heap.size w w') :
    Below (b + 1) W w' ∧ b + 2 ≤ w'.heap.size ∧ w'.cell? ⟨b, 0, none⟩ = some x ∧ w'.cell? ⟨b, 1, none⟩ = some y := by
  have h2 := h.2.1
  have hs := hb.size
  exact ⟨h.1.trans (hb.mono (by omega)), by omega, (hb.cell (p := ⟨b, 0, none⟩) (by show b < _; omega)).trans h.2.2.1, (hb.cell (p := ⟨b, 1, none⟩) (by show b < _; omega)).trans h.2.2.2⟩

theorem keepR {b B size n c : Nat} {W w : World} {x y : Value} {A : Option Addr} {xs : List Value} (hB : B ≤ b + 1) (h : Below (b + 1) W w ∧ b + 2 ≤ w.heap.size ∧ w.cell? ⟨b, 0, none⟩ = some x ∧ w.cell? ⟨b, 1, none⟩ = some y) (hr : Reads W B size A n c xs) : Reads w B size A n c xs := hr.below (h.1.mono hB)
theorem keepN {b : Nat} {W w : World} {x y : Value} (h : Below (b + 1) W w ∧ b + 2 ≤ w.heap.size ∧ w.cell? ⟨b, 0, none⟩ = some x ∧ w.cell? ⟨b, 1, none⟩ = some y) : b ≤ w.heap.size := by have := h.2.1; omega
theorem keepSet {b : Nat} {W w : World} {x y u v : Value} (h : Below (b + 1) W w ∧ b + 2 ≤ w.heap.size ∧ w.cell? ⟨b, 0, none⟩ = some x ∧ w.cell? ⟨b, 1, none⟩ = some y) :
    Below (b + 1) W ((w.setCell ⟨b + 1, 0, none⟩ u).setCell ⟨b + 1, 1, none⟩ v) ∧ b + 2 ≤ ((w.setCell ⟨b + 1, 0, none⟩ u).setCell ⟨b + 1, 1, none⟩ v).heap.size ∧ ((w.setCell ⟨b + 1, 0, none⟩ u).setCell ⟨b + 1, 1, none⟩ v).cell? ⟨b, 0, none⟩ = some x ∧ ((w.setCell ⟨b + 1, 0, none⟩ u).setCell ⟨b + 1, 1, none⟩ v).cell? ⟨b, 1, none⟩ = some y := by
  have hne : ∀ (w : World) (o i : Nat) (u : Value), (w.setCell ⟨b + 1, o, none⟩ u).cell? ⟨b, i, none⟩ = w.cell? ⟨b, i, none⟩ := fun w o i u => World.cell?_setCell_far _ _ _ _ (by show b + 1 ≠ b; omega)
  refine ⟨(h.1.setCell (Nat.le_refl _) _).setCell (Nat.le_refl _) _, by simpa [World.setCell] using h.2.1, ?_, ?_⟩
  · rw [hne, hne]; exact h.2.2.1
  · rw [hne, hne]; exact h.2.2.2

set_option maxHeartbeats 1000000 in
theorem own_any (w : World) (v : Value) (ms : List Mk) (al : List Al) (h : St w v ms al) :
    Calls Try.prog 19 #[v] w (Gives id ms al w) := by
  obtain ⟨A, c, A', c', rfl, h1, h2, h3, h4⟩ := h
  have H1 := Lib.hid h1
  have H2 := Lib.hid h2
  clear h1 h2
  have hS0 : Below (w.heap.size + 1) ((w.alloc (.cells #[.slice A ms.length c, .slice A' al.length c'] 26)).alloc (.cells #[.slice none 0 0, .slice none 0 0] 26)) (((w.alloc (.cells #[.slice A ms.length c, .slice A' al.length c'] 26)).alloc (.cells #[.slice none 0 0, .slice none 0 0] 26))).drew ∧ w.heap.size + 2 ≤ (((w.alloc (.cells #[.slice A ms.length c, .slice A' al.length c'] 26)).alloc (.cells #[.slice none 0 0, .slice none 0 0] 26))).drew.heap.size := by
    exact ⟨(Below.refl _ _).drew, by simp [World.drew]⟩
  have BX := ((Blk.new w #[.slice A ms.length c, .slice A' al.length c'] 26).alloc (.cells #[.slice none 0 0, .slice none 0 0] 26))
  have hb2 := Blk.new (w.alloc (.cells #[.slice A ms.length c, .slice A' al.length c'] 26)) #[.slice none 0 0, .slice none 0 0] 26
  rw [World.size_alloc] at hb2
  have hw2 := fresh_alloc (fresh_alloc (Below.refl w.heap.size w) (.cells #[.slice A ms.length c, .slice A' al.length c'] 26)) (.cells #[.slice none 0 0, .slice none 0 0] 26)
  go_enter Try.func19, Try.ntmps19
  go_wp2_with fail
  generalize ((w.alloc (.cells #[.slice A ms.length c, .slice A' al.length c'] 26)).alloc (.cells #[.slice none 0 0, .slice none 0 0] 26)) = w2 at *
  have hS := Lib.hid (show Below (w.heap.size + 1) w2 w2.drew ∧ w.heap.size + 2 ≤ w2.drew.heap.size ∧ w2.drew.cell? ⟨w.heap.size, 0, none⟩ = some (.slice A ms.length c) ∧ w2.drew.cell? ⟨w.heap.size, 1, none⟩ = some (.slice A' al.length c') from ⟨hS0.1, hS0.2, BX.two.1, BX.two.2.1⟩)
  have HB2 := Lib.hid hb2
  have HW2 := Lib.hid hw2
  clear hS0 BX hb2 hw2
  go_region_held3 (fun w' => Below (w.heap.size + 1) w2 w' ∧ w.heap.size + 2 ≤ w'.heap.size ∧ w'.cell? ⟨w.heap.size, 0, none⟩ = some (.slice A ms.length c) ∧ w'.cell? ⟨w.heap.size, 1, none⟩ = some (.slice A' al.length c'))
    (first | exact hS.out | exact keepS (by assumption) (by assumption) | exact keepSet (by assumption))
    (first
      | (go_at_call 25; refine (cloneM _ w.heap.size _ _ _ ms (keepR (b := w.heap.size) (by omega) (by assumption) (H1.out.below HW2.out)) (keepN (by assumption)) rfl h3).mono ?_; rintro e w3 ⟨A3, c3, rfl, ho3, hb3⟩; have HO3 := Lib.hid ho3; have HB3 := Lib.hid (HB2.out.drew.call hb3); clear ho3; dsimp only)
      | (go_at_call 26; refine (cloneA _ w.heap.size _ _ _ al (keepR (b := w.heap.size) (by omega) (by assumption) (H2.out.below HW2.out)) (keepN (by assumption)) rfl h4).mono ?_; rintro e w4 ⟨A4, c4, rfl, ho4, hb4⟩; have HO4 := Lib.hid ho4; have HB4 := HB3.out.call hb4; obtain ⟨k1, k2, k3, k4⟩ := HB4.two; clear ho4; dsimp only))
  have BN := (HB4.set 0 (.slice A3 ms.length c3))
  have hO3 := own_set (i := 1) (u := .slice A4 al.length c4) (own_set (i := 0) (u := .slice A3 ms.length c3) (own_below (own_mono HO3.out HW2.out.size) hb4) HB4 (by decide)) BN (by decide)
  have hO4 := own_set (i := 1) (u := .slice A4 al.length c4) (own_set (i := 0) (u := .slice A3 ms.length c3) (own_mono HO4.out (Nat.le_trans HW2.out.size hb3.size)) HB4 (by decide)) BN (by decide)
  have hW := (((((HW2.out.drew).trans (hb3.mono HW2.out.size)).trans (hb4.mono (Nat.le_trans HW2.out.size hb3.size))).setCell (show w.heap.size ≤ (⟨w.heap.size + 1, 0, none⟩ : Addr).block by show _ ≤ w.heap.size + 1; omega) (.slice A3 ms.length c3)).setCell (show w.heap.size ≤ (⟨w.heap.size + 1, 1, none⟩ : Addr).block by show _ ≤ w.heap.size + 1; omega) (.slice A4 al.length c4))
  have HO := Lib.hid (show Owned w.heap.size _ ms al A3 c3 A4 c4 from ⟨hO3, hO4⟩)
  have HW := Lib.hid hW
  clear hO3 hO4 hW BN HB4
  go_wp2_with fail
  exact bodyPost_ret (v := .agg #[.slice A3 ms.length c3, .slice A4 al.length c4]) (by simp [results, Try.results19, go_sem, k1, k2]) rfl ⟨A3, c3, A4, c4, rfl, HO.out, HW.out⟩
end Go.Proofs.Ytjlbmelpoaffpaa.Unw
