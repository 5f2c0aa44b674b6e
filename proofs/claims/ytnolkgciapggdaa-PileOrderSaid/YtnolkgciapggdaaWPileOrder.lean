/- The walk of besomlaw8.PileOrder: it returns true, and writes nothing that was there. -/
import Derived.Test.YtnolkgciapggdaaPileA
namespace Go.Proofs.Ytnolkgciapggdaa.PileOrder
open Go.RowKit Pil
set_option linter.unusedSimpArgs false
set_option linter.unusedVariables false

def Rel (B b room n : Nat) (xs : List Int) (lost : Bool) (w : World) (i : Value) (wr : World) : Prop :=
  ∃ (k : Nat) (v : Value), k ≤ n ∧ i = .int .i64 ((k : Int) - 1) ∧ PileAt wr B b room (xs.take k) lost v ∧ Below w.heap.size w wr

theorem early (r : Int) (A : Option Addr) (n c : Nat) (w : World) (hm : n ≤ 9223372036854775807) (h : r < 1 ∨ 200 < r ∨ 100 < n) :
    Calls Try.prog 7 #[.int .i64 r, .slice A n c] w fun e w' => e = .returned (.bool true) ∧ Below w.heap.size w w' := by
  by_cases h1 : r < 1
  · clear h
    go_enter Try.func7, Try.ntmps7
    go_wp2_with fail
    refine (alive _).mono ?_
    rintro e w1 ⟨rfl, hb⟩
    dsimp only
    go_wp2
    go_ret
    exact ⟨rfl, hb⟩
  by_cases h2 : 200 < r
  · clear h
    go_enter Try.func7, Try.ntmps7
    go_wp2_with fail
    refine (alive _).mono ?_
    rintro e w1 ⟨rfl, hb⟩
    dsimp only
    go_wp2
    go_ret
    exact ⟨rfl, hb⟩
  · have h3 : 100 < n := by omega
    clear h
    go_enter Try.func7, Try.ntmps7
    go_wp2_with fail
    refine (alive _).mono ?_
    rintro e w1 ⟨rfl, hb⟩
    dsimp only
    go_wp2
    go_ret
    exact ⟨rfl, hb⟩

set_option maxRecDepth 100000 in
set_option maxHeartbeats 1000000 in
theorem core_lt (room : Nat) (A : Option Addr) (n c : Nat) (xs : List Int) (w : World) (r1 : 1 ≤ room) (r2 : room ≤ 200) (hn : n ≤ 100) (hlt : n < room) (l : xs.length = n) (wx : ∀ z ∈ xs, (Lit.int .i64 z).wf = true) (R : Reads w w.heap.size 1 A n c (xs.map (.int .i64))) :
    Calls Try.prog 7 #[.int .i64 room, .slice A n c] w fun e w' => e = .returned (.bool true) ∧ Below w.heap.size w w' := by
  have htk : xs.take room = xs.take n := by
    rcases Nat.le_total room n with h | h
    · rw [show n = room by omega]
    · rw [List.take_of_length_le (i := room) (by omega), List.take_of_length_le (i := n) (by omega)]
  have hlen : (xs.take n).length = n := by simp; omega
  have hmin : ((min n room : Nat) : Int) = (n : Nat) := by omega
  have hdec : decide (room < n) = false := by simp; try omega
  have HL := Lib.hid l
  have HR := Lib.hid R
  have HX := Lib.hid wx
  have HT := Lib.hid htk
  have HN := Lib.hid hlen
  have HM := Lib.hid hmin
  have HD := Lib.hid hdec
  clear l R wx htk hlen hmin hdec
  go_enter Try.func7, Try.ntmps7
  go_wp2_with fail
  refine (alive _).mono ?_
  rintro e w0 ⟨rfl, hb⟩
  dsimp only
  go_wp2_with fail
  refine (new_any _ _).mono ?_
  rw [show (min (max (room : Int) 1) 1000).toNat = room by omega]
  rintro e w1 ⟨rfl, h1, hb1⟩
  have hw1 := fresh_call hb hb1
  have H1 := Lib.hid h1
  have hB : w.heap.size ≤ w0.heap.size := hb.size
  have hbl := h1.1.lt
  clear h1 hb hb1
  dsimp only
  go_wp2_with fail
  refine (put_any _ _ _ _ _ _ A n c xs _ H1.out HL.out (by simp) (by omega) (by omega) HX.out ?_).mono ?_
  · intro j z hz
    obtain ⟨sb, off, rfl, hs, hc⟩ := (HR.out.below hw1).at_ (j := j) (u := .int .i64 z) (by rw [List.getElem?_map, hz]; rfl)
    refine ⟨_, _, rfl, by omega, ?_, hc⟩
    rintro (h | h)
    · omega
    · simp [Value.ownBlock] at h
  rintro e w2 ⟨rfl, ⟨v', h2, _⟩, hk2⟩
  have hw2 : Below w.heap.size w w2 := hw1.trans ((kept_below H1.out hk2).mono hB)
  rw [List.nil_append, List.length_nil, Nat.sub_zero, Bool.false_or, HT.out, HD.out] at h2
  rw [List.length_nil, Nat.sub_zero, HM.out]
  have H2 := Lib.hid h2
  have H0 := Lib.hid (show Rel w0.heap.size w0.heap.size room n xs false w (.int .i64 (((n : Nat) : Int) - 1)) w2 from ⟨n, v', Nat.le_refl _, rfl, h2, hw2⟩)
  clear h2 hk2 H1
  dsimp only
  go_wp2_with (first
    | (go_at_call 26; refine (lost_any _ _ _ _ _ _ _ H2.out).mono ?_; rintro e w4 ⟨rfl, rfl⟩; dsimp only)
    | (go_at_call 27; refine (len_any _ _ _ _ _ _ _ H2.out).mono ?_; rw [HN.out]; rintro e w4 ⟨rfl, rfl⟩; dsimp only))
  go_loopw [7] (fun i wr => Rel w0.heap.size w0.heap.size room n xs false w i wr) (fun i _ => (intOf i + 1).toNat)
  case atStart => exact H0.out
  case round =>
    clear H0 H2 hw1 hw2
    obtain ⟨k, v, hk, rfl, hP, hw⟩ := hrel
    rcases Nat.eq_zero_or_pos k with h0 | h0
    · subst h0
      rw [List.take_zero] at hP
      have HP := Lib.hid hP
      clear hP
      go_wp2_with fail
      refine (take_none _ _ _ _ _ _ HP.out).mono ?_
      rintro e w3 ⟨rfl, rfl⟩
      dsimp only
      go_wp2_with fail
      refine (found_any _ _ _ _ _ _ _ HP.out).mono ?_
      rintro e w3 ⟨rfl, h3, hk3⟩
      have hw3 := hw.trans ((kept_below HP.out hk3).mono hB)
      have H3 := Lib.hid h3
      clear h3 hk3 HP
      dsimp only
      go_wp2_with (first
        | (go_at_call 26; refine (lost_any _ _ _ _ _ _ _ H3.out).mono ?_; rintro e w4 ⟨rfl, rfl⟩; dsimp only)
        | (go_at_call 27; refine (len_any _ _ _ _ _ _ _ H3.out).mono ?_; rintro e w4 ⟨rfl, rfl⟩; dsimp only))
      go_ret
      exact ⟨rfl, hw3⟩
    · obtain ⟨j, rfl⟩ : ∃ j, k = j + 1 := ⟨k - 1, by omega⟩
      have hjx : j < xs.length := by have := HL.out; omega
      have hxj : xs[j]? = some xs[j] := List.getElem?_eq_getElem hjx
      rw [take_snoc hxj] at hP
      obtain ⟨sb, off, rfl, hsb, hsc⟩ := (HR.out.below hw).at_ (j := j) (u := .int .i64 xs[j]) (by rw [List.getElem?_map, hxj]; rfl)
      have hsr : sb < wr.heap.size := by have := hw.size; omega
      have HP := Lib.hid hP
      clear hP hxj
      generalize xs[j] = x at *
      have hj0 : (0 : Int) ≤ ((j + 1 : Nat) : Int) - 1 := by omega
      have hje : ((j + 1 : Nat) : Int) - 1 = (j : Int) := by omega
      rw [hje]
      clear hje hj0
      go_wp2_with fail
      refine (take_some _ _ _ _ _ _ _ _ HP.out).mono ?_
      rintro e w3 ⟨rfl, ⟨v3, h3, _⟩, hk3⟩
      have hb3 := kept_below HP.out hk3
      have hsc3 : w3.cell? ⟨sb, off + j, none⟩ = some (.int .i64 x) := (hb3.cell (p := ⟨sb, off + j, none⟩) (by show sb < w0.heap.size; omega)).trans hsc
      have hw3 := hw.trans (hb3.mono hB)
      have H3 := Lib.hid h3
      clear h3 hk3 HP hb3 hsc
      dsimp only
      go_wp2_with fail
      refine ⟨⟨j, v3, by omega, rfl, H3.out, hw3⟩, by simp [intOf]⟩

set_option maxRecDepth 100000 in
set_option maxHeartbeats 1000000 in
theorem core_gt (room : Nat) (A : Option Addr) (n c : Nat) (xs : List Int) (w : World) (r1 : 1 ≤ room) (r2 : room ≤ 200) (hn : n ≤ 100) (hlt : room < n) (l : xs.length = n) (wx : ∀ z ∈ xs, (Lit.int .i64 z).wf = true) (R : Reads w w.heap.size 1 A n c (xs.map (.int .i64))) :
    Calls Try.prog 7 #[.int .i64 room, .slice A n c] w fun e w' => e = .returned (.bool true) ∧ Below w.heap.size w w' := by
  have hlen : (xs.take room).length = room := by simp; omega
  have hmin : ((min n room : Nat) : Int) = (room : Nat) := by omega
  have hdec : decide (room < n) = true := by simp; try omega
  have HL := Lib.hid l
  have HR := Lib.hid R
  have HX := Lib.hid wx
  have HN := Lib.hid hlen
  have HM := Lib.hid hmin
  have HD := Lib.hid hdec
  clear l R wx hlen hmin hdec
  go_enter Try.func7, Try.ntmps7
  go_wp2_with fail
  refine (alive _).mono ?_
  rintro e w0 ⟨rfl, hb⟩
  dsimp only
  go_wp2_with fail
  refine (new_any _ _).mono ?_
  rw [show (min (max (room : Int) 1) 1000).toNat = room by omega]
  rintro e w1 ⟨rfl, h1, hb1⟩
  have hw1 := fresh_call hb hb1
  have H1 := Lib.hid h1
  have hB : w.heap.size ≤ w0.heap.size := hb.size
  have hbl := h1.1.lt
  clear h1 hb hb1
  dsimp only
  go_wp2_with fail
  refine (put_any _ _ _ _ _ _ A n c xs _ H1.out HL.out (by simp) (by omega) (by omega) HX.out ?_).mono ?_
  · intro j z hz
    obtain ⟨sb, off, rfl, hs, hc⟩ := (HR.out.below hw1).at_ (j := j) (u := .int .i64 z) (by rw [List.getElem?_map, hz]; rfl)
    refine ⟨_, _, rfl, by omega, ?_, hc⟩
    rintro (h | h)
    · omega
    · simp [Value.ownBlock] at h
  rintro e w2 ⟨rfl, ⟨v', h2, _⟩, hk2⟩
  have hw2 : Below w.heap.size w w2 := hw1.trans ((kept_below H1.out hk2).mono hB)
  rw [List.nil_append, List.length_nil, Nat.sub_zero, Bool.false_or, HD.out] at h2
  rw [List.length_nil, Nat.sub_zero, HM.out]
  have H2 := Lib.hid h2
  have H0 := Lib.hid (show Rel w0.heap.size w0.heap.size room room xs true w (.int .i64 (((room : Nat) : Int) - 1)) w2 from ⟨room, v', Nat.le_refl _, rfl, h2, hw2⟩)
  clear h2 hk2 H1
  dsimp only
  go_wp2_with (first
    | (go_at_call 26; refine (lost_any _ _ _ _ _ _ _ H2.out).mono ?_; rintro e w4 ⟨rfl, rfl⟩; dsimp only)
    | (go_at_call 27; refine (len_any _ _ _ _ _ _ _ H2.out).mono ?_; rw [HN.out]; rintro e w4 ⟨rfl, rfl⟩; dsimp only))
  go_loopw [7] (fun i wr => Rel w0.heap.size w0.heap.size room room xs true w i wr) (fun i _ => (intOf i + 1).toNat)
  case atStart => exact H0.out
  case round =>
    clear H0 H2 hw1 hw2
    obtain ⟨k, v, hk, rfl, hP, hw⟩ := hrel
    rcases Nat.eq_zero_or_pos k with h0 | h0
    · subst h0
      rw [List.take_zero] at hP
      have HP := Lib.hid hP
      clear hP
      go_wp2_with fail
      refine (take_none _ _ _ _ _ _ HP.out).mono ?_
      rintro e w3 ⟨rfl, rfl⟩
      dsimp only
      go_wp2_with fail
      refine (found_any _ _ _ _ _ _ _ HP.out).mono ?_
      rintro e w3 ⟨rfl, h3, hk3⟩
      have hw3 := hw.trans ((kept_below HP.out hk3).mono hB)
      have H3 := Lib.hid h3
      clear h3 hk3 HP
      dsimp only
      go_wp2_with (first
        | (go_at_call 26; refine (lost_any _ _ _ _ _ _ _ H3.out).mono ?_; rintro e w4 ⟨rfl, rfl⟩; dsimp only)
        | (go_at_call 27; refine (len_any _ _ _ _ _ _ _ H3.out).mono ?_; rintro e w4 ⟨rfl, rfl⟩; dsimp only))
      go_ret
      exact ⟨rfl, hw3⟩
    · obtain ⟨j, rfl⟩ : ∃ j, k = j + 1 := ⟨k - 1, by omega⟩
      have hjx : j < xs.length := by have := HL.out; omega
      have hxj : xs[j]? = some xs[j] := List.getElem?_eq_getElem hjx
      rw [take_snoc hxj] at hP
      obtain ⟨sb, off, rfl, hsb, hsc⟩ := (HR.out.below hw).at_ (j := j) (u := .int .i64 xs[j]) (by rw [List.getElem?_map, hxj]; rfl)
      have hsr : sb < wr.heap.size := by have := hw.size; omega
      have HP := Lib.hid hP
      clear hP hxj
      generalize xs[j] = x at *
      have hj0 : (0 : Int) ≤ ((j + 1 : Nat) : Int) - 1 := by omega
      have hje : ((j + 1 : Nat) : Int) - 1 = (j : Int) := by omega
      rw [hje]
      clear hje hj0
      go_wp2_with fail
      refine (take_some _ _ _ _ _ _ _ _ HP.out).mono ?_
      rintro e w3 ⟨rfl, ⟨v3, h3, _⟩, hk3⟩
      have hb3 := kept_below HP.out hk3
      have hsc3 : w3.cell? ⟨sb, off + j, none⟩ = some (.int .i64 x) := (hb3.cell (p := ⟨sb, off + j, none⟩) (by show sb < w0.heap.size; omega)).trans hsc
      have hw3 := hw.trans (hb3.mono hB)
      have H3 := Lib.hid h3
      clear h3 hk3 HP hb3 hsc
      dsimp only
      go_wp2_with fail
      refine ⟨⟨j, v3, by omega, rfl, H3.out, hw3⟩, by simp [intOf]⟩

set_option maxRecDepth 100000 in
set_option maxHeartbeats 1000000 in
theorem core_eq (room : Nat) (A : Option Addr) (n c : Nat) (xs : List Int) (w : World) (r1 : 1 ≤ room) (r2 : room ≤ 200) (hn : room ≤ 100) (_hz : n = n) (l : xs.length = room) (wx : ∀ z ∈ xs, (Lit.int .i64 z).wf = true) (R : Reads w w.heap.size 1 A room c (xs.map (.int .i64))) :
    Calls Try.prog 7 #[.int .i64 room, .slice A room c] w fun e w' => e = .returned (.bool true) ∧ Below w.heap.size w w' := by
  have hlen : (xs.take room).length = room := by simp; omega
  have hmin : ((min room room : Nat) : Int) = (room : Nat) := by omega
  have hdec : decide (room < room) = false := by simp; try omega
  have HL := Lib.hid l
  have HR := Lib.hid R
  have HX := Lib.hid wx
  have HN := Lib.hid hlen
  have HM := Lib.hid hmin
  have HD := Lib.hid hdec
  clear l R wx hlen hmin hdec
  go_enter Try.func7, Try.ntmps7
  go_wp2_with fail
  refine (alive _).mono ?_
  rintro e w0 ⟨rfl, hb⟩
  dsimp only
  go_wp2_with fail
  refine (new_any _ _).mono ?_
  rw [show (min (max (room : Int) 1) 1000).toNat = room by omega]
  rintro e w1 ⟨rfl, h1, hb1⟩
  have hw1 := fresh_call hb hb1
  have H1 := Lib.hid h1
  have hB : w.heap.size ≤ w0.heap.size := hb.size
  have hbl := h1.1.lt
  clear h1 hb hb1
  dsimp only
  go_wp2_with fail
  refine (put_any _ _ _ _ _ _ A room c xs _ H1.out HL.out (by simp) (by omega) (by omega) HX.out ?_).mono ?_
  · intro j z hz
    obtain ⟨sb, off, rfl, hs, hc⟩ := (HR.out.below hw1).at_ (j := j) (u := .int .i64 z) (by rw [List.getElem?_map, hz]; rfl)
    refine ⟨_, _, rfl, by omega, ?_, hc⟩
    rintro (h | h)
    · omega
    · simp [Value.ownBlock] at h
  rintro e w2 ⟨rfl, ⟨v', h2, _⟩, hk2⟩
  have hw2 : Below w.heap.size w w2 := hw1.trans ((kept_below H1.out hk2).mono hB)
  rw [List.nil_append, List.length_nil, Nat.sub_zero, Bool.false_or, HD.out] at h2
  rw [List.length_nil, Nat.sub_zero, HM.out]
  have H2 := Lib.hid h2
  have H0 := Lib.hid (show Rel w0.heap.size w0.heap.size room room xs false w (.int .i64 (((room : Nat) : Int) - 1)) w2 from ⟨room, v', Nat.le_refl _, rfl, h2, hw2⟩)
  clear h2 hk2 H1
  dsimp only
  go_wp2_with (first
    | (go_at_call 26; refine (lost_any _ _ _ _ _ _ _ H2.out).mono ?_; rintro e w4 ⟨rfl, rfl⟩; dsimp only)
    | (go_at_call 27; refine (len_any _ _ _ _ _ _ _ H2.out).mono ?_; rw [HN.out]; rintro e w4 ⟨rfl, rfl⟩; dsimp only))
  go_loopw [7] (fun i wr => Rel w0.heap.size w0.heap.size room room xs false w i wr) (fun i _ => (intOf i + 1).toNat)
  case atStart => exact H0.out
  case round =>
    clear H0 H2 hw1 hw2
    obtain ⟨k, v, hk, rfl, hP, hw⟩ := hrel
    rcases Nat.eq_zero_or_pos k with h0 | h0
    · subst h0
      rw [List.take_zero] at hP
      have HP := Lib.hid hP
      clear hP
      go_wp2_with fail
      refine (take_none _ _ _ _ _ _ HP.out).mono ?_
      rintro e w3 ⟨rfl, rfl⟩
      dsimp only
      go_wp2_with fail
      refine (found_any _ _ _ _ _ _ _ HP.out).mono ?_
      rintro e w3 ⟨rfl, h3, hk3⟩
      have hw3 := hw.trans ((kept_below HP.out hk3).mono hB)
      have H3 := Lib.hid h3
      clear h3 hk3 HP
      dsimp only
      go_wp2_with (first
        | (go_at_call 26; refine (lost_any _ _ _ _ _ _ _ H3.out).mono ?_; rintro e w4 ⟨rfl, rfl⟩; dsimp only)
        | (go_at_call 27; refine (len_any _ _ _ _ _ _ _ H3.out).mono ?_; rintro e w4 ⟨rfl, rfl⟩; dsimp only))
      go_ret
      exact ⟨rfl, hw3⟩
    · obtain ⟨j, rfl⟩ : ∃ j, k = j + 1 := ⟨k - 1, by omega⟩
      have hjx : j < xs.length := by have := HL.out; omega
      have hxj : xs[j]? = some xs[j] := List.getElem?_eq_getElem hjx
      rw [take_snoc hxj] at hP
      obtain ⟨sb, off, rfl, hsb, hsc⟩ := (HR.out.below hw).at_ (j := j) (u := .int .i64 xs[j]) (by rw [List.getElem?_map, hxj]; rfl)
      have hsr : sb < wr.heap.size := by have := hw.size; omega
      have HP := Lib.hid hP
      clear hP hxj
      generalize xs[j] = x at *
      have hj0 : (0 : Int) ≤ ((j + 1 : Nat) : Int) - 1 := by omega
      have hje : ((j + 1 : Nat) : Int) - 1 = (j : Int) := by omega
      rw [hje]
      clear hje hj0
      go_wp2_with fail
      refine (take_some _ _ _ _ _ _ _ _ HP.out).mono ?_
      rintro e w3 ⟨rfl, ⟨v3, h3, _⟩, hk3⟩
      have hb3 := kept_below HP.out hk3
      have hsc3 : w3.cell? ⟨sb, off + j, none⟩ = some (.int .i64 x) := (hb3.cell (p := ⟨sb, off + j, none⟩) (by show sb < w0.heap.size; omega)).trans hsc
      have hw3 := hw.trans (hb3.mono hB)
      have H3 := Lib.hid h3
      clear h3 hk3 HP hb3 hsc
      dsimp only
      go_wp2_with fail
      refine ⟨⟨j, v3, by omega, rfl, H3.out, hw3⟩, by simp [intOf]⟩

theorem walk (r : Int) (A : Option Addr) (n c : Nat) (xs : List Int) (w : World) (_wr : (Lit.int .i64 r).wf = true) (l : xs.length = n) (wx : ∀ z ∈ xs, (Lit.int .i64 z).wf = true) (R : Reads w w.heap.size 1 A n c (xs.map (.int .i64))) :
    Calls Try.prog 7 #[.int .i64 r, .slice A n c] w fun e w' => e = .returned (.bool true) ∧ Below w.heap.size w w' := by
  have hm : n ≤ 9223372036854775807 := by have := R.1; have := R.2.1; unfold maxLen at this; omega
  by_cases h : r < 1 ∨ 200 < r ∨ 100 < n
  · exact early r A n c w hm h
  · obtain ⟨room, rfl⟩ := Int.eq_ofNat_of_zero_le (a := r) (by omega)
    rcases Nat.lt_trichotomy n room with h1 | h1 | h1
    · exact core_lt room A n c xs w (by omega) (by omega) (by omega) h1 l wx R
    · subst h1
      exact core_eq n A n c xs w (by omega) (by omega) (by omega) rfl l wx R
    · exact core_gt room A n c xs w (by omega) (by omega) (by omega) h1 l wx R
end Go.Proofs.Ytnolkgciapggdaa.PileOrder
