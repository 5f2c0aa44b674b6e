/- Package besomlaw4: its first call answers true. No conditions. -/
import Derived.Test.YtpdleckflcangaaShpC
import Derived.Test.YtpdleckflcangaaShpP
namespace Go.Proofs.Ytpdleckflcangaa.Shp
open Go.RowKit Book
set_option linter.unusedSimpArgs false
set_option linter.unusedVariables false

theorem abc_wf : ∀ z ∈ [(1 : Int), 16, 17], (Lit.int .i64 z).wf = true := by decide
/-- A row of shapes that lies in a block of its own. -/
theorem RS.made {w : World} {b b1 B n : Nat} {cs : Array Value} {T : TypeId} (h : Blk w b1 cs T) (hB : b1 < B) (hcs : cs.toList = List.replicate n (.slice (some ⟨b, 0, none⟩) 3 3)) (hn : n ≤ 100)
    (hr : RI w B (some ⟨b, 0, none⟩) 3 3 [1, 16, 17]) : RS w B (some ⟨b1, 0, none⟩) n n (List.replicate n [1, 16, 17]) := by
  refine ⟨by simp, Nat.le_refl _, by unfold maxLen; omega, fun i l hl => ?_⟩
  have hi : i < n := by have := (List.getElem?_eq_some_iff.1 hl).1; simpa using this
  have hle : l = [1, 16, 17] := by rw [List.getElem?_replicate, if_pos hi] at hl; injection hl with hl; exact hl.symm
  subst hle
  refine ⟨b1, 0, some ⟨b, 0, none⟩, 3, rfl, hB, ?_, hr, abc_wf⟩
  rw [Nat.zero_add, h.cell i, ← Array.getElem?_toList, hcs, List.getElem?_replicate, if_pos hi]
  rfl
theorem chk_two : chk (List.replicate 2 [1, 16, 17]) = 0 := by decide
theorem chk_one : chk (List.replicate 1 [1, 16, 17]) = 3 := by decide

set_option maxRecDepth 100000 in
set_option maxHeartbeats 1000000 in
theorem alive (w : World) : Calls Try.prog 25 #[] w fun e w' => e = .returned (.bool true) ∧ Below w.heap.size w w' := by
  go_enter Try.func25, Try.ntmps25
  go_wp2_with fail
  refine (points_yes _ _ (by omega) (by omega)).mono ?_
  rintro e w3 ⟨rfl, rfl⟩
  dsimp only
  go_wp2_with fail
  have B0 := (Blk.new w #[Value.int IntKind.i64 1, Value.int IntKind.i64 16, Value.int IntKind.i64 17] 3).alloc (.cells #[Value.slice (some { block := w.heap.size, off := 0 }) 3 3] 48)
  have B1 := Blk.new (w.alloc (.cells #[Value.int IntKind.i64 1, Value.int IntKind.i64 16, Value.int IntKind.i64 17] 3)) #[Value.slice (some { block := w.heap.size, off := 0 }) 3 3] 48
  have hw := fresh_alloc (fresh_alloc (Below.refl w.heap.size w) (.cells #[Value.int IntKind.i64 1, Value.int IntKind.i64 16, Value.int IntKind.i64 17] 3)) (.cells #[Value.slice (some { block := w.heap.size, off := 0 }) 3 3] 48)
  have hs : (w.alloc (.cells #[Value.int IntKind.i64 1, Value.int IntKind.i64 16, Value.int IntKind.i64 17] 3)).heap.size = w.heap.size + 1 := by simp
  rw [hs] at B1
  generalize (w.alloc (Obj.cells #[Value.int IntKind.i64 1, Value.int IntKind.i64 16, Value.int IntKind.i64 17] 3)).alloc (Obj.cells #[Value.slice (some { block := w.heap.size, off := 0 }) 3 3] 48) = w2 at *
  clear hs
  have R0 : RI w2 w2.heap.size (some ⟨w.heap.size, 0, none⟩) 3 3 [1, 16, 17] := ⟨rfl, B0.reads B0.lt rfl rfl (by unfold maxLen; omega)⟩
  have hp : (((pt [1, 16, 17] 3 : Nat) : Int)) = 6 := by decide
  refine (pointers_any w2 w2.heap.size (some ⟨w.heap.size, 0, none⟩) 3 3 [1, 16, 17] R0 (Nat.le_refl _)).mono ?_
  rw [hp]
  rintro e w3 ⟨rfl, hb⟩
  have B03 := Lib.hid (B0.call hb)
  have B13 := Lib.hid (B1.call hb)
  have hw3 := fresh_call hw hb
  have c1 := B13.out.one
  have lt1 := B13.out.lt
  clear hp B0 B1 hw R0 hb
  dsimp only
  go_wp2_with fail
  have E0 := Lib.hid (Blk.new w3 #[Value.slice (some { block := w.heap.size, off := 0 }) 3 3, Value.slice (some { block := w.heap.size, off := 0 }) 3 3] 48)
  have B04 := Lib.hid (B03.out.alloc (.cells #[Value.slice (some { block := w.heap.size, off := 0 }) 3 3, Value.slice (some { block := w.heap.size, off := 0 }) 3 3] 48))
  have B14 := Lib.hid (B13.out.alloc (.cells #[Value.slice (some { block := w.heap.size, off := 0 }) 3 3, Value.slice (some { block := w.heap.size, off := 0 }) 3 3] 48))
  have hw4 := Lib.hid (fresh_alloc hw3 (.cells #[Value.slice (some { block := w.heap.size, off := 0 }) 3 3, Value.slice (some { block := w.heap.size, off := 0 }) 3 3] 48))
  generalize w3.alloc (Obj.cells #[Value.slice (some { block := w.heap.size, off := 0 }) 3 3, Value.slice (some { block := w.heap.size, off := 0 }) 3 3] 48) = w4 at *
  refine (check_any w4 _ 2 2 (List.replicate 2 [1, 16, 17]) (RS.made E0.out E0.out.lt rfl (by omega) ⟨rfl, B04.out.reads B04.out.lt rfl rfl (by unfold maxLen; omega)⟩)).mono ?_
  rw [chk_two]
  rintro e w5 ⟨rfl, hb⟩
  have B05 := Lib.hid (B04.out.call hb)
  have B15 := Lib.hid (B14.out.call hb)
  have hw5 := fresh_call hw4.out hb
  have c5 := B15.out.one
  have lt5 := B15.out.lt
  clear hw3 hb c1 lt1
  dsimp only
  go_wp2_with fail
  have E0 := Lib.hid (Blk.new w5 #[Value.slice (some { block := w.heap.size, off := 0 }) 3 3] 48)
  have B06 := Lib.hid (B05.out.alloc (.cells #[Value.slice (some { block := w.heap.size, off := 0 }) 3 3] 48))
  have hw6 := Lib.hid (fresh_alloc hw5 (.cells #[Value.slice (some { block := w.heap.size, off := 0 }) 3 3] 48))
  generalize w5.alloc (Obj.cells #[Value.slice (some { block := w.heap.size, off := 0 }) 3 3] 48) = w6 at *
  refine (check_any w6 _ 1 1 (List.replicate 1 [1, 16, 17]) (RS.made E0.out E0.out.lt rfl (by omega) ⟨rfl, B06.out.reads B06.out.lt rfl rfl (by unfold maxLen; omega)⟩)).mono ?_
  rw [chk_one]
  rintro e w7 ⟨rfl, hb⟩
  have hw7 := fresh_call hw6.out hb
  clear hb
  dsimp only
  go_wp2_with fail
  go_ret
  exact ⟨rfl, hw7⟩
end Go.Proofs.Ytpdleckflcangaa.Shp
