/- Package besombook: kinds of which there is no list; and Apart: it answers true. (Printed by a program of mine.) -/
import Derived.Test.YtfgpadkoonogpaaDoorBook9
namespace Go.Proofs.YtfgpadkoonogpaaDoor.Book
open Go.RowKit
set_option linter.unusedSimpArgs false
set_option linter.unusedVariables false

/-- What a book's block reads as. -/
def Cells (w : World) (b : Nat) (vI vW : Value) : Prop := Blk w b #[vI, vW, .slice none 0 0, .slice none 0 0, .slice none 0 0, .slice none 0 0, .slice none 0 0, .slice none 0 0, .slice none 0 0, .slice none 0 0] 38

set_option maxRecDepth 100000 in
theorem stillInstrs_nil (w : World) (b : Nat) (vI vW : Value) (h : Cells w b vI vW) :
    Calls Tryd.prog 53 #[.pointer (some ⟨b, 0, none⟩)] w fun e w' => e = .returned (.bool true) ∧ w = w' := by
  have c0 := Blk.cell h 2
  simp at c0
  clear h
  go_enter Tryd.func53, Tryd.ntmps53
  go_wp2_with fail
  go_loop [3] (fun i => i = .int .i64 0) (fun _ => 0)
  case atStart => rfl
  case round =>
    obtain rfl := hrel
    go_wp2_with fail
    go_ret
    exact ⟨rfl, rfl⟩
set_option maxRecDepth 100000 in
theorem putInstrs_nil (w : World) (b : Nat) (vI vW : Value) (h : Cells w b vI vW) :
    Calls Tryd.prog 59 #[.pointer (some ⟨b, 0, none⟩)] w fun e w' => e = .returned (.tuple #[]) ∧ w = w' := by
  have c0 := Blk.cell h 2
  simp at c0
  clear h
  go_enter Tryd.func59, Tryd.ntmps59
  go_wp2_with fail
  go_loop [2] (fun i => i = .int .i64 0) (fun _ => 0)
  case atStart => rfl
  case round =>
    obtain rfl := hrel
    go_wp2_with fail
    go_end0
    exact ⟨rfl, rfl⟩
set_option maxRecDepth 100000 in
theorem growInstrs_nil (w : World) (b : Nat) (vI vW : Value) (h : Cells w b vI vW) :
    Calls Tryd.prog 63 #[.pointer (some ⟨b, 0, none⟩)] w fun e w' => e = .returned (.slice none 0 0) ∧ w = w' := by
  have c0 := Blk.cell h 2
  simp at c0
  clear h
  go_enter Tryd.func63, Tryd.ntmps63
  go_wp2_with fail
  go_loop [3, 4] (fun o i => o = .slice none 0 0 ∧ i = .int .i64 0) (fun _ _ => 0)
  case atStart => exact ⟨rfl, rfl⟩
  case round =>
    obtain ⟨rfl, rfl⟩ := hrel
    go_wp2_with fail
    go_ret
    exact ⟨rfl, rfl⟩
set_option maxRecDepth 100000 in
theorem markedInstrs_nil (w : World) :
    Calls Tryd.prog 68 #[.slice none 0 0] w fun e w' => e = .returned (.bool true) ∧ w = w' := by
  go_enter Tryd.func68, Tryd.ntmps68
  go_wp2_with fail
  go_loop [3] (fun i => i = .int .i64 0) (fun _ => 0)
  case atStart => rfl
  case round =>
    obtain rfl := hrel
    go_wp2_with fail
    go_ret
    exact ⟨rfl, rfl⟩
set_option maxRecDepth 100000 in
theorem stillPairs_nil (w : World) (b : Nat) (vI vW : Value) (h : Cells w b vI vW) :
    Calls Tryd.prog 54 #[.pointer (some ⟨b, 0, none⟩)] w fun e w' => e = .returned (.bool true) ∧ w = w' := by
  have c0 := Blk.cell h 4
  simp at c0
  clear h
  go_enter Tryd.func54, Tryd.ntmps54
  go_wp2_with fail
  go_loop [3] (fun i => i = .int .i64 0) (fun _ => 0)
  case atStart => rfl
  case round =>
    obtain rfl := hrel
    go_wp2_with fail
    go_ret
    exact ⟨rfl, rfl⟩
set_option maxRecDepth 100000 in
theorem putPairs_nil (w : World) (b : Nat) (vI vW : Value) (h : Cells w b vI vW) :
    Calls Tryd.prog 60 #[.pointer (some ⟨b, 0, none⟩)] w fun e w' => e = .returned (.tuple #[]) ∧ w = w' := by
  have c0 := Blk.cell h 4
  simp at c0
  clear h
  go_enter Tryd.func60, Tryd.ntmps60
  go_wp2_with fail
  go_loop [2] (fun i => i = .int .i64 0) (fun _ => 0)
  case atStart => rfl
  case round =>
    obtain rfl := hrel
    go_wp2_with fail
    go_end0
    exact ⟨rfl, rfl⟩
set_option maxRecDepth 100000 in
theorem growPairs_nil (w : World) (b : Nat) (vI vW : Value) (h : Cells w b vI vW) :
    Calls Tryd.prog 64 #[.pointer (some ⟨b, 0, none⟩)] w fun e w' => e = .returned (.slice none 0 0) ∧ w = w' := by
  have c0 := Blk.cell h 4
  simp at c0
  clear h
  go_enter Tryd.func64, Tryd.ntmps64
  go_wp2_with fail
  go_loop [3, 4] (fun o i => o = .slice none 0 0 ∧ i = .int .i64 0) (fun _ _ => 0)
  case atStart => exact ⟨rfl, rfl⟩
  case round =>
    obtain ⟨rfl, rfl⟩ := hrel
    go_wp2_with fail
    go_ret
    exact ⟨rfl, rfl⟩
set_option maxRecDepth 100000 in
theorem markedPairs_nil (w : World) :
    Calls Tryd.prog 69 #[.slice none 0 0] w fun e w' => e = .returned (.bool true) ∧ w = w' := by
  go_enter Tryd.func69, Tryd.ntmps69
  go_wp2_with fail
  go_loop [3] (fun i => i = .int .i64 0) (fun _ => 0)
  case atStart => rfl
  case round =>
    obtain rfl := hrel
    go_wp2_with fail
    go_ret
    exact ⟨rfl, rfl⟩
set_option maxRecDepth 100000 in
theorem stillEntries_nil (w : World) (b : Nat) (vI vW : Value) (h : Cells w b vI vW) :
    Calls Tryd.prog 55 #[.pointer (some ⟨b, 0, none⟩)] w fun e w' => e = .returned (.bool true) ∧ w = w' := by
  have c0 := Blk.cell h 6
  simp at c0
  clear h
  go_enter Tryd.func55, Tryd.ntmps55
  go_wp2_with fail
  go_loop [3] (fun i => i = .int .i64 0) (fun _ => 0)
  case atStart => rfl
  case round =>
    obtain rfl := hrel
    go_wp2_with fail
    go_ret
    exact ⟨rfl, rfl⟩
set_option maxRecDepth 100000 in
theorem putEntries_nil (w : World) (b : Nat) (vI vW : Value) (h : Cells w b vI vW) :
    Calls Tryd.prog 61 #[.pointer (some ⟨b, 0, none⟩)] w fun e w' => e = .returned (.tuple #[]) ∧ w = w' := by
  have c0 := Blk.cell h 6
  simp at c0
  clear h
  go_enter Tryd.func61, Tryd.ntmps61
  go_wp2_with fail
  go_loop [2] (fun i => i = .int .i64 0) (fun _ => 0)
  case atStart => rfl
  case round =>
    obtain rfl := hrel
    go_wp2_with fail
    go_end0
    exact ⟨rfl, rfl⟩
set_option maxRecDepth 100000 in
theorem growEntries_nil (w : World) (b : Nat) (vI vW : Value) (h : Cells w b vI vW) :
    Calls Tryd.prog 65 #[.pointer (some ⟨b, 0, none⟩)] w fun e w' => e = .returned (.slice none 0 0) ∧ w = w' := by
  have c0 := Blk.cell h 6
  simp at c0
  clear h
  go_enter Tryd.func65, Tryd.ntmps65
  go_wp2_with fail
  go_loop [3, 4] (fun o i => o = .slice none 0 0 ∧ i = .int .i64 0) (fun _ _ => 0)
  case atStart => exact ⟨rfl, rfl⟩
  case round =>
    obtain ⟨rfl, rfl⟩ := hrel
    go_wp2_with fail
    go_ret
    exact ⟨rfl, rfl⟩
set_option maxRecDepth 100000 in
theorem markedEntries_nil (w : World) :
    Calls Tryd.prog 70 #[.slice none 0 0] w fun e w' => e = .returned (.bool true) ∧ w = w' := by
  go_enter Tryd.func70, Tryd.ntmps70
  go_wp2_with fail
  go_loop [3] (fun i => i = .int .i64 0) (fun _ => 0)
  case atStart => rfl
  case round =>
    obtain rfl := hrel
    go_wp2_with fail
    go_ret
    exact ⟨rfl, rfl⟩
set_option maxRecDepth 100000 in
theorem stillObjects_nil (w : World) (b : Nat) (vI vW : Value) (h : Cells w b vI vW) :
    Calls Tryd.prog 56 #[.pointer (some ⟨b, 0, none⟩)] w fun e w' => e = .returned (.bool true) ∧ w = w' := by
  have c0 := Blk.cell h 8
  simp at c0
  clear h
  go_enter Tryd.func56, Tryd.ntmps56
  go_wp2_with fail
  go_loop [3] (fun i => i = .int .i64 0) (fun _ => 0)
  case atStart => rfl
  case round =>
    obtain rfl := hrel
    go_wp2_with fail
    go_ret
    exact ⟨rfl, rfl⟩
set_option maxRecDepth 100000 in
theorem putObjects_nil (w : World) (b : Nat) (vI vW : Value) (h : Cells w b vI vW) :
    Calls Tryd.prog 57 #[.pointer (some ⟨b, 0, none⟩)] w fun e w' => e = .returned (.tuple #[]) ∧ w = w' := by
  have c0 := Blk.cell h 8
  simp at c0
  clear h
  go_enter Tryd.func57, Tryd.ntmps57
  go_wp2_with fail
  go_loop [2] (fun i => i = .int .i64 0) (fun _ => 0)
  case atStart => rfl
  case round =>
    obtain rfl := hrel
    go_wp2_with fail
    go_end0
    exact ⟨rfl, rfl⟩
set_option maxRecDepth 100000 in
theorem growObjects_nil (w : World) (b : Nat) (vI vW : Value) (h : Cells w b vI vW) :
    Calls Tryd.prog 66 #[.pointer (some ⟨b, 0, none⟩)] w fun e w' => e = .returned (.slice none 0 0) ∧ w = w' := by
  have c0 := Blk.cell h 8
  simp at c0
  clear h
  go_enter Tryd.func66, Tryd.ntmps66
  go_wp2_with fail
  go_loop [3, 4] (fun o i => o = .slice none 0 0 ∧ i = .int .i64 0) (fun _ _ => 0)
  case atStart => exact ⟨rfl, rfl⟩
  case round =>
    obtain ⟨rfl, rfl⟩ := hrel
    go_wp2_with fail
    go_ret
    exact ⟨rfl, rfl⟩
set_option maxRecDepth 100000 in
theorem markedObjects_nil (w : World) :
    Calls Tryd.prog 71 #[.slice none 0 0] w fun e w' => e = .returned (.bool true) ∧ w = w' := by
  go_enter Tryd.func71, Tryd.ntmps71
  go_wp2_with fail
  go_loop [3] (fun i => i = .int .i64 0) (fun _ => 0)
  case atStart => rfl
  case round =>
    obtain rfl := hrel
    go_wp2_with fail
    go_ret
    exact ⟨rfl, rfl⟩
theorem mk_marked (ks : List KL) : Marked (mk ks ks.length) := by
  intro j p hj
  rw [mk_at] at hj
  cases hk : ks[j]? with
  | none => rw [hk] at hj; cases hj
  | some q =>
    rw [hk] at hj
    have hlt : j < ks.length := (List.getElem?_eq_some_iff.1 hk).1
    simp [hlt] at hj
    subst hj
    simp [marks_length]
set_option maxRecDepth 100000 in
set_option maxHeartbeats 2000000 in
theorem apart_any (w : World) (S : Nat → Prop) (base b : Nat) (ks ms : List KL) (vI vW : Value) (h : BookAt w S base b ks ms vI vW) (hlen : ms.length = ks.length) (hsame : ∀ (i : Nat) (p q : KL), ks[i]? = some p → ms[i]? = some q → p.2 = q.2) (hS : ∀ k, w.heap.size ≤ k → S k) (hbase : base ≤ w.heap.size) :
    Calls Tryd.prog 25 #[.pointer (some ⟨b, 0, none⟩)] w fun e w' => e = .returned (.bool true) ∧ Kept S w w' := by
  obtain ⟨aI, cI, rfl⟩ := slice_form h.oI
  have HSt := Lib.hid (still_any w S base b ks ms _ vW h hlen hsame)
  have H := Lib.hid h
  have HS := Lib.hid hS
  clear h hlen hsame hS
  go_enter Tryd.func25, Tryd.ntmps25
  go_wp2_with fail
  refine HSt.out.mono ?_
  rintro e w1 ⟨rfl, d, hw1⟩
  have H1 := Lib.hid (show BK w1 S base b ks _ vW from by rw [hw1]; exact (H.out.drewN d).bk)
  have HK1 := Lib.hid (show Kept S w w1 from by rw [hw1]; exact (Kept.refl S w).drewN d)
  clear hw1 HSt H
  dsimp only

  go_wp2_with fail
  refine (stillInstrs_nil _ _ _ _ H1.out.blk).mono ?_
  rintro e w9 ⟨rfl, rfl⟩
  dsimp only
  go_wp2_with fail
  refine (stillPairs_nil _ _ _ _ H1.out.blk).mono ?_
  rintro e w9 ⟨rfl, rfl⟩
  dsimp only
  go_wp2_with fail
  refine (stillEntries_nil _ _ _ _ H1.out.blk).mono ?_
  rintro e w9 ⟨rfl, rfl⟩
  dsimp only
  go_wp2_with fail
  refine (stillObjects_nil _ _ _ _ H1.out.blk).mono ?_
  rintro e w9 ⟨rfl, rfl⟩
  dsimp only
  go_wp2_with fail
  refine (putObjects_nil _ _ _ _ H1.out.blk).mono ?_
  rintro e w9 ⟨rfl, rfl⟩
  dsimp only
  go_wp2_with fail
  refine (put_any _ S base b ks _ _ H1.out).mono ?_
  rintro e w2 ⟨rfl, h2, k2⟩
  have H2 := Lib.hid h2
  have HK2 := Lib.hid (HK1.out.step k2 (fun _ _ h => h))
  clear h2 k2 H1
  dsimp only
  go_wp2_with fail
  refine (putInstrs_nil _ _ _ _ H2.out.blk).mono ?_
  rintro e w9 ⟨rfl, rfl⟩
  dsimp only
  go_wp2_with fail
  refine (putPairs_nil _ _ _ _ H2.out.blk).mono ?_
  rintro e w9 ⟨rfl, rfl⟩
  dsimp only
  go_wp2_with fail
  refine (putEntries_nil _ _ _ _ H2.out.blk).mono ?_
  rintro e w9 ⟨rfl, rfl⟩
  dsimp only
  have hz2 := HK2.out.size
  have hl2 := mk_length ks ks.length
  have HL2 := Lib.hid hl2
  clear hl2
  go_wp2_with fail
  refine (grow_any _ S base b (mk ks ks.length) _ _ H2.out (mk_marked ks) (fun k hk => HS.out k (by omega)) (by omega)).mono ?_
  rintro e w3 ⟨gs, a, c, rfl, h3, k3, o3, l3, g3, m3⟩
  rw [HL2.out] at o3 l3
  have H3 := Lib.hid h3
  have HK3 := Lib.hid (HK2.out.step k3 (fun _ _ h => h))
  have HG := Lib.hid (show w3.ownsRow w2.heap.size 27 1 (.slice a ks.length c) gs.length (gs.map Prod.fst) ∧ gs.length = ks.length ∧ Own w3 S base gs 100000 ∧ Marked gs ∧ ks.length ≤ 250 from ⟨o3, l3, g3, m3, by have := H2.out.few; rw [HL2.out] at this; exact this⟩)
  have hI : w3.ownsRow base 27 1 (.slice aI ks.length cI) (mk ks ks.length).length ((mk ks ks.length).map Prod.fst) := H3.out.oI
  have HI := Lib.hid hI
  clear h3 k3 o3 l3 g3 m3 hI H2
  rw [HL2.out]
  dsimp only
  go_wp2_with fail
  refine (growInstrs_nil _ _ _ _ H3.out.blk).mono ?_
  rintro e w9 ⟨rfl, rfl⟩
  dsimp only
  go_wp2_with fail
  refine (growPairs_nil _ _ _ _ H3.out.blk).mono ?_
  rintro e w9 ⟨rfl, rfl⟩
  dsimp only
  go_wp2_with fail
  refine (growEntries_nil _ _ _ _ H3.out.blk).mono ?_
  rintro e w9 ⟨rfl, rfl⟩
  dsimp only
  go_wp2_with fail
  refine (growObjects_nil _ _ _ _ H3.out.blk).mono ?_
  rintro e w9 ⟨rfl, rfl⟩
  dsimp only
  go_wp2_with fail
  refine (marked_any _ S base _ 100000 gs a c ks.length HG.out.1 HG.out.2.1.symm HG.out.2.2.1 (by omega) HG.out.2.2.2.1 HG.out.2.2.2.2).mono ?_
  rintro e w4 ⟨rfl, hb4⟩
  have H4 := Lib.hid (H3.out.call hb4)
  have HK4 := Lib.hid (HK3.out.step (Kept.of_below hb4 S) (fun _ _ h => h))
  have HI4 := Lib.hid (show w4.ownsRow base 27 1 (.slice aI ks.length cI) (mk ks ks.length).length ((mk ks ks.length).map Prod.fst) from own_block HI.out fun q e => hb4.block q (HI.out.lt q e).2)
  clear hb4 H3 HK3 HI
  have c0 := H4.out.blk.cell 0
  have c2 := H4.out.blk.cell 2
  have c4 := H4.out.blk.cell 4
  have c6 := H4.out.blk.cell 6
  have c8 := H4.out.blk.cell 8
  simp at c0 c2 c4 c6 c8
  dsimp only
  go_wp2_with fail
  refine (marked_any _ S base _ 99000 (mk ks ks.length) aI cI ks.length HI4.out HL2.out.symm H4.out.li (by omega) (mk_marked ks) HG.out.2.2.2.2).mono ?_
  rintro e w5 ⟨rfl, hb5⟩
  have H5 := Lib.hid (H4.out.call hb5)
  have HK5 := Lib.hid (HK4.out.step (Kept.of_below hb5 S) (fun _ _ h => h))
  clear hb5 H4 HK4 HI4 c0 c2 c4 c6 c8
  have c0 := H5.out.blk.cell 0
  have c2 := H5.out.blk.cell 2
  have c4 := H5.out.blk.cell 4
  have c6 := H5.out.blk.cell 6
  have c8 := H5.out.blk.cell 8
  simp at c0 c2 c4 c6 c8
  dsimp only
  go_wp2_with fail
  refine (markedInstrs_nil _).mono ?_
  rintro e w9 ⟨rfl, rfl⟩
  dsimp only
  go_wp2_with fail
  refine (markedInstrs_nil _).mono ?_
  rintro e w9 ⟨rfl, rfl⟩
  dsimp only
  go_wp2_with fail
  refine (markedPairs_nil _).mono ?_
  rintro e w9 ⟨rfl, rfl⟩
  dsimp only
  go_wp2_with fail
  refine (markedPairs_nil _).mono ?_
  rintro e w9 ⟨rfl, rfl⟩
  dsimp only
  go_wp2_with fail
  refine (markedEntries_nil _).mono ?_
  rintro e w9 ⟨rfl, rfl⟩
  dsimp only
  go_wp2_with fail
  refine (markedEntries_nil _).mono ?_
  rintro e w9 ⟨rfl, rfl⟩
  dsimp only
  go_wp2_with fail
  refine (markedObjects_nil _).mono ?_
  rintro e w9 ⟨rfl, rfl⟩
  dsimp only
  go_wp2_with fail
  refine (markedObjects_nil _).mono ?_
  rintro e w9 ⟨rfl, rfl⟩
  dsimp only
  go_wp2_with fail
  go_ret
  exact ⟨rfl, HK5.out⟩
end Go.Proofs.YtfgpadkoonogpaaDoor.Book
