/- Package unwind: the contract of Recover. (Printed by a program of mine.) -/
import Derived.Test.YtjlbmelpoaffpaaUnw6
namespace Go.Proofs.Ytjlbmelpoaffpaa.Unw
open Go.RowKit
set_option linter.unusedSimpArgs false
set_option linter.unusedVariables false

/-- May the one on top recover? -/
def canRec : List Mk → List Al → Bool
  | m :: r, a :: _ => m.df && (a.run == ((r.length : Int) + 1)) && !a.ex && !a.rc
  | _, _ => false
def recA : List Al → List Al
  | [] => []
  | a :: q => { a with rc := true } :: q
def recF (code ptr : Int) (b : Bool) (v : Value) : Value := .tuple #[v, .int .i64 code, .int .i64 ptr, .bool b]
/-- What Recover gives. -/
def Recovers (ms : List Mk) (al : List Al) (w : World) (e : Ending) (w' : World) : Prop :=
  if canRec ms al = true then Gives (recF ((al.head?.map Al.code).getD 0) ((al.head?.map Al.ptr).getD 0) true) ms (recA al) w e w' else Gives (recF 0 0 false) ms al w e w'
theorem blk5 {w : World} {b : Nat} {x y z u v : Value} {T : TypeId} (h : Blk w b #[x, y, z, u, v] T) : w.cell? ⟨b, 0, none⟩ = some x ∧ w.cell? ⟨b, 1, none⟩ = some y ∧ w.cell? ⟨b, 2, none⟩ = some z ∧ w.cell? ⟨b, 3, none⟩ = some u ∧ w.cell? ⟨b, 4, none⟩ = some v :=
  ⟨h.cell 0, h.cell 1, h.cell 2, h.cell 3, h.cell 4⟩
theorem keep4 {b d : Nat} {w : World} {x y z u p q : Value} (hd : b + 1 ≠ d) (h : w.cell? ⟨b, 0, none⟩ = some x ∧ w.cell? ⟨b, 1, none⟩ = some y ∧ w.cell? ⟨d, 0, none⟩ = some z ∧ w.cell? ⟨d, 1, none⟩ = some u) :
    ((w.setCell ⟨b + 1, 0, none⟩ p).setCell ⟨b + 1, 1, none⟩ q).cell? ⟨b, 0, none⟩ = some x ∧ ((w.setCell ⟨b + 1, 0, none⟩ p).setCell ⟨b + 1, 1, none⟩ q).cell? ⟨b, 1, none⟩ = some y ∧ ((w.setCell ⟨b + 1, 0, none⟩ p).setCell ⟨b + 1, 1, none⟩ q).cell? ⟨d, 0, none⟩ = some z ∧ ((w.setCell ⟨b + 1, 0, none⟩ p).setCell ⟨b + 1, 1, none⟩ q).cell? ⟨d, 1, none⟩ = some u := by
  have h1 : ∀ (w : World) (o i : Nat) (u : Value), (w.setCell ⟨b + 1, o, none⟩ u).cell? ⟨b, i, none⟩ = w.cell? ⟨b, i, none⟩ := fun w o i u => World.cell?_setCell_far _ _ _ _ (by show b + 1 ≠ b; omega)
  have h2 : ∀ (w : World) (o i : Nat) (u : Value), (w.setCell ⟨b + 1, o, none⟩ u).cell? ⟨d, i, none⟩ = w.cell? ⟨d, i, none⟩ := fun w o i u => World.cell?_setCell_far _ _ _ _ hd
  simp only [h1, h2]
  exact h
theorem gives_drew {F : Value → Value} {ms : List Mk} {al : List Al} {w w' : World} {e : Ending} (h : Gives F ms al w e w') : Gives F ms al w e w'.drew := by
  obtain ⟨A, c, A', c', h1, h2, h3⟩ := h
  exact ⟨A, c, A', c', h1, h2, h3.drew⟩

set_option maxHeartbeats 2000000 in
theorem recover_n1 (w : World) (v : Value) (al : List Al) (h : St w v [] al) :
    Calls Try.prog 17 #[v] w (Gives (recF 0 0 false) [] al w) := by
  have HS := Lib.hid h
  obtain ⟨A, c, A', c', rfl, _, _, hml, hal⟩ := h
  rcases al with _ | ⟨⟨code, ptr, run, ex, rc⟩, q⟩
  · go_enter Try.func17, Try.ntmps17
    go_wp2_with fail
    refine (own_any _ _ [] [] (HS.out.below (fresh_alloc (fresh_alloc (Below.refl _ _) _) _))).mono ?_
    intro e w1 hg
    obtain ⟨A3, c3, A4, c4, rfl, k1, k2, k3, k4, hin⟩ := inner_own hg
    simp only [List.length_nil, List.length_cons] at hin k1 k2
    have HIN := Lib.hid hin
    clear hg hin
    have hlt := HIN.out.lt
    dsimp only
    obtain ⟨l1, l2, l3, l4, l5, l6, l7, l8⟩ := HIN.out.boxCells
    go_wp2_with fail
    generalize ((w1.setCell ⟨w.heap.size, 0, none⟩ (.slice A3 0 c3)).setCell ⟨w.heap.size, 1, none⟩ (.slice A4 0 c4)) = w2 at *
    refine (top_any _ _ [] [] (HIN.out.st (Nat.zero_le _) (Nat.zero_le _))).mono ?_
    rintro e w3 ⟨rfl, hb⟩
    have HI3 := Lib.hid ((HIN.out.call hb).alloc (.cells #[.bool false, .bool false, .int .i64 0] 38))
    obtain ⟨p1, p2, p3, p4, p5, p6, p7, p8⟩ := (HIN.out.call hb).boxCells
    have hlt3 := (HIN.out.call hb).box.lt
    obtain ⟨n1, n2, n3, n4, n5, n6, n7, n8⟩ := HI3.out.boxCells
    have BM := Blk.new w3 #[.bool false, .bool false, .int .i64 0] 38
    simp only [List.length_cons, List.length_nil] at n1 n2 p1 p2
    clear hb l1 l2 l3 l4 l5 l6 l7 l8
    have HBM := Lib.hid BM
    clear BM
    simp only [topV]
    go_wp2_with fail
    generalize w3.alloc (.cells #[.bool false, .bool false, .int .i64 0] 38) = w4 at *
    refine (last_any _ _ [] [] (HI3.out.st (Nat.zero_le _) (Nat.zero_le _))).mono ?_
    rintro e w5 ⟨rfl, hb⟩
    have hreslt5 := (HI3.out.call hb).res.lt
    have HL5 := Lib.hid hreslt5
    clear hreslt5
    have hown5 := (HI3.out.call hb).own.2.lt
    have HO5 := Lib.hid hown5
    clear hown5
    have HI5 := Lib.hid ((HI3.out.call hb).alloc (.cells #[.int .i64 0, .int .i64 0, .int .i64 0, .bool false, .bool false] 32))
    obtain ⟨p1, p2, p3, p4, p5, p6, p7, p8⟩ := (HI3.out.call hb).boxCells
    have hlt5 := (HI3.out.call hb).box.lt
    obtain ⟨q1, q2, q3, q4, q5, q6, q7, q8⟩ := HI5.out.boxCells
    have BM5 := (HBM.out.call hb)
    obtain ⟨m0, m1, m2, _, _, _⟩ := BM5.three
    have mlt := BM5.lt
    obtain ⟨a0, a1, a2, a3, a4⟩ := blk5 (Blk.new w5 #[.int .i64 0, .int .i64 0, .int .i64 0, .bool false, .bool false] 32)
    obtain ⟨m00, m01, m02, _, _, _⟩ := (BM5.alloc (.cells #[.int .i64 0, .int .i64 0, .int .i64 0, .bool false, .bool false] 32)).three
    simp only [List.length_cons, List.length_nil] at q1 q2 p1 p2
    clear hb n1 n2 n3 n4 n5 n6 n7 n8 BM5
    simp only [lastV]
    go_wp2_with fail
    exact bodyPost_ret (v := recF 0 0 false (.agg #[.slice A3 0 c3, .slice A4 0 c4])) (by simp [recF, results, Try.results17, go_sem, q5, q6, p5, p6]) rfl (HI5.out.gives (recF 0 0 false))
  · simp only [List.length_cons] at hal
    go_enter Try.func17, Try.ntmps17
    go_wp2_with fail
    refine (own_any _ _ [] (⟨code, ptr, run, ex, rc⟩ :: q) (HS.out.below (fresh_alloc (fresh_alloc (Below.refl _ _) _) _))).mono ?_
    intro e w1 hg
    obtain ⟨A3, c3, A4, c4, rfl, k1, k2, k3, k4, hin⟩ := inner_own hg
    simp only [List.length_nil, List.length_cons] at hin k1 k2
    have HIN := Lib.hid hin
    clear hg hin
    have hlt := HIN.out.lt
    dsimp only
    obtain ⟨l1, l2, l3, l4, l5, l6, l7, l8⟩ := HIN.out.boxCells
    go_wp2_with fail
    generalize ((w1.setCell ⟨w.heap.size, 0, none⟩ (.slice A3 0 c3)).setCell ⟨w.heap.size, 1, none⟩ (.slice A4 (q.length + 1) c4)) = w2 at *
    refine (top_any _ _ [] (⟨code, ptr, run, ex, rc⟩ :: q) (HIN.out.st (Nat.zero_le _) hal)).mono ?_
    rintro e w3 ⟨rfl, hb⟩
    have HI3 := Lib.hid ((HIN.out.call hb).alloc (.cells #[.bool false, .bool false, .int .i64 0] 38))
    obtain ⟨p1, p2, p3, p4, p5, p6, p7, p8⟩ := (HIN.out.call hb).boxCells
    have hlt3 := (HIN.out.call hb).box.lt
    obtain ⟨n1, n2, n3, n4, n5, n6, n7, n8⟩ := HI3.out.boxCells
    have BM := Blk.new w3 #[.bool false, .bool false, .int .i64 0] 38
    simp only [List.length_cons, List.length_nil] at n1 n2 p1 p2
    clear hb l1 l2 l3 l4 l5 l6 l7 l8
    have HBM := Lib.hid BM
    clear BM
    simp only [topV]
    go_wp2_with fail
    generalize w3.alloc (.cells #[.bool false, .bool false, .int .i64 0] 38) = w4 at *
    refine (last_any _ _ [] (⟨code, ptr, run, ex, rc⟩ :: q) (HI3.out.st (Nat.zero_le _) hal)).mono ?_
    rintro e w5 ⟨rfl, hb⟩
    have hreslt5 := (HI3.out.call hb).res.lt
    have HL5 := Lib.hid hreslt5
    clear hreslt5
    have hown5 := (HI3.out.call hb).own.2.lt
    have HO5 := Lib.hid hown5
    clear hown5
    have HI5 := Lib.hid ((HI3.out.call hb).alloc (.cells #[.int .i64 code, .int .i64 ptr, .int .i64 run, .bool ex, .bool rc] 32))
    obtain ⟨p1, p2, p3, p4, p5, p6, p7, p8⟩ := (HI3.out.call hb).boxCells
    have hlt5 := (HI3.out.call hb).box.lt
    obtain ⟨q1, q2, q3, q4, q5, q6, q7, q8⟩ := HI5.out.boxCells
    have BM5 := (HBM.out.call hb)
    obtain ⟨m0, m1, m2, _, _, _⟩ := BM5.three
    have mlt := BM5.lt
    obtain ⟨a0, a1, a2, a3, a4⟩ := blk5 (Blk.new w5 #[.int .i64 code, .int .i64 ptr, .int .i64 run, .bool ex, .bool rc] 32)
    obtain ⟨m00, m01, m02, _, _, _⟩ := (BM5.alloc (.cells #[.int .i64 code, .int .i64 ptr, .int .i64 run, .bool ex, .bool rc] 32)).three
    simp only [List.length_cons, List.length_nil] at q1 q2 p1 p2
    clear hb n1 n2 n3 n4 n5 n6 n7 n8 BM5
    simp only [lastV]
    go_wp2_with fail
    exact bodyPost_ret (v := recF 0 0 false (.agg #[.slice A3 0 c3, .slice A4 (q.length + 1) c4])) (by simp [recF, results, Try.results17, go_sem, q5, q6, p5, p6]) rfl (HI5.out.gives (recF 0 0 false))

set_option maxHeartbeats 2000000 in
theorem recover_n2 (w : World) (v : Value) (lv df : Bool) (th : Int) (r : List Mk) (h : St w v (⟨lv, df, th⟩ :: r) []) :
    Calls Try.prog 17 #[v] w (Gives (recF 0 0 false) (⟨lv, df, th⟩ :: r) [] w) := by
  have HS := Lib.hid h
  obtain ⟨A, c, A', c', rfl, _, _, hml, hal⟩ := h
  simp only [List.length_cons] at hml
  go_enter Try.func17, Try.ntmps17
  go_wp2_with fail
  refine (own_any _ _ (⟨lv, df, th⟩ :: r) [] (HS.out.below (fresh_alloc (fresh_alloc (Below.refl _ _) _) _))).mono ?_
  intro e w1 hg
  obtain ⟨A3, c3, A4, c4, rfl, k1, k2, k3, k4, hin⟩ := inner_own hg
  simp only [List.length_nil, List.length_cons] at hin k1 k2
  have HIN := Lib.hid hin
  clear hg hin
  have hlt := HIN.out.lt
  dsimp only
  obtain ⟨l1, l2, l3, l4, l5, l6, l7, l8⟩ := HIN.out.boxCells
  go_wp2_with fail
  generalize ((w1.setCell ⟨w.heap.size, 0, none⟩ (.slice A3 (r.length + 1) c3)).setCell ⟨w.heap.size, 1, none⟩ (.slice A4 0 c4)) = w2 at *
  refine (top_any _ _ (⟨lv, df, th⟩ :: r) [] (HIN.out.st hml (Nat.zero_le _))).mono ?_
  rintro e w3 ⟨rfl, hb⟩
  have HI3 := Lib.hid ((HIN.out.call hb).alloc (.cells #[.bool lv, .bool df, .int .i64 th] 38))
  obtain ⟨p1, p2, p3, p4, p5, p6, p7, p8⟩ := (HIN.out.call hb).boxCells
  have hlt3 := (HIN.out.call hb).box.lt
  obtain ⟨n1, n2, n3, n4, n5, n6, n7, n8⟩ := HI3.out.boxCells
  have BM := Blk.new w3 #[.bool lv, .bool df, .int .i64 th] 38
  simp only [List.length_cons, List.length_nil] at n1 n2 p1 p2
  clear hb l1 l2 l3 l4 l5 l6 l7 l8
  have HBM := Lib.hid BM
  clear BM
  simp only [topV]
  go_wp2_with fail
  generalize w3.alloc (.cells #[.bool lv, .bool df, .int .i64 th] 38) = w4 at *
  refine (last_any _ _ (⟨lv, df, th⟩ :: r) [] (HI3.out.st hml (Nat.zero_le _))).mono ?_
  rintro e w5 ⟨rfl, hb⟩
  have hreslt5 := (HI3.out.call hb).res.lt
  have HL5 := Lib.hid hreslt5
  clear hreslt5
  have hown5 := (HI3.out.call hb).own.2.lt
  have HO5 := Lib.hid hown5
  clear hown5
  have HI5 := Lib.hid ((HI3.out.call hb).alloc (.cells #[.int .i64 0, .int .i64 0, .int .i64 0, .bool false, .bool false] 32))
  obtain ⟨p1, p2, p3, p4, p5, p6, p7, p8⟩ := (HI3.out.call hb).boxCells
  have hlt5 := (HI3.out.call hb).box.lt
  obtain ⟨q1, q2, q3, q4, q5, q6, q7, q8⟩ := HI5.out.boxCells
  have BM5 := (HBM.out.call hb)
  obtain ⟨m0, m1, m2, _, _, _⟩ := BM5.three
  have mlt := BM5.lt
  obtain ⟨a0, a1, a2, a3, a4⟩ := blk5 (Blk.new w5 #[.int .i64 0, .int .i64 0, .int .i64 0, .bool false, .bool false] 32)
  obtain ⟨m00, m01, m02, _, _, _⟩ := (BM5.alloc (.cells #[.int .i64 0, .int .i64 0, .int .i64 0, .bool false, .bool false] 32)).three
  simp only [List.length_cons, List.length_nil] at q1 q2 p1 p2
  clear hb n1 n2 n3 n4 n5 n6 n7 n8 BM5
  simp only [lastV]
  go_wp2_with fail
  exact bodyPost_ret (v := recF 0 0 false (.agg #[.slice A3 (r.length + 1) c3, .slice A4 0 c4])) (by simp [recF, results, Try.results17, go_sem, q5, q6, p5, p6]) rfl (HI5.out.gives (recF 0 0 false))

set_option maxHeartbeats 2000000 in
theorem recover_n3 (w : World) (v : Value) (lv df ex rc : Bool) (th code ptr run : Int) (r : List Mk) (q : List Al) (hc : canRec (⟨lv, df, th⟩ :: r) (⟨code, ptr, run, ex, rc⟩ :: q) = false) (h : St w v (⟨lv, df, th⟩ :: r) (⟨code, ptr, run, ex, rc⟩ :: q)) :
    Calls Try.prog 17 #[v] w (Gives (recF 0 0 false) (⟨lv, df, th⟩ :: r) (⟨code, ptr, run, ex, rc⟩ :: q) w) := by
  have HS := Lib.hid h
  obtain ⟨A, c, A', c', rfl, _, _, hml, hal⟩ := h
  simp only [List.length_cons] at hml hal
  have hcase : df = false ∨ (df = true ∧ (run != ((r.length : Int) + 1)) = true) ∨ (df = true ∧ (run != ((r.length : Int) + 1)) = false ∧ ex = true) ∨ (df = true ∧ (run != ((r.length : Int) + 1)) = false ∧ ex = false ∧ rc = true) := by
    unfold canRec at hc
    by_cases hr : run = (r.length : Int) + 1 <;> cases df <;> cases ex <;> cases rc <;> simp_all
  clear hc
  rcases hcase with rfl | ⟨rfl, h1⟩ | ⟨rfl, h1, rfl⟩ | ⟨rfl, h1, rfl, rfl⟩
  · go_enter Try.func17, Try.ntmps17
    go_wp2_with fail
    refine (own_any _ _ (⟨lv, false, th⟩ :: r) (⟨code, ptr, run, ex, rc⟩ :: q) (HS.out.below (fresh_alloc (fresh_alloc (Below.refl _ _) _) _))).mono ?_
    intro e w1 hg
    obtain ⟨A3, c3, A4, c4, rfl, k1, k2, k3, k4, hin⟩ := inner_own hg
    simp only [List.length_nil, List.length_cons] at hin k1 k2
    have HIN := Lib.hid hin
    clear hg hin
    have hlt := HIN.out.lt
    dsimp only
    obtain ⟨l1, l2, l3, l4, l5, l6, l7, l8⟩ := HIN.out.boxCells
    go_wp2_with fail
    generalize ((w1.setCell ⟨w.heap.size, 0, none⟩ (.slice A3 (r.length + 1) c3)).setCell ⟨w.heap.size, 1, none⟩ (.slice A4 (q.length + 1) c4)) = w2 at *
    refine (top_any _ _ (⟨lv, false, th⟩ :: r) (⟨code, ptr, run, ex, rc⟩ :: q) (HIN.out.st hml hal)).mono ?_
    rintro e w3 ⟨rfl, hb⟩
    have HI3 := Lib.hid ((HIN.out.call hb).alloc (.cells #[.bool lv, .bool false, .int .i64 th] 38))
    obtain ⟨p1, p2, p3, p4, p5, p6, p7, p8⟩ := (HIN.out.call hb).boxCells
    have hlt3 := (HIN.out.call hb).box.lt
    obtain ⟨n1, n2, n3, n4, n5, n6, n7, n8⟩ := HI3.out.boxCells
    have BM := Blk.new w3 #[.bool lv, .bool false, .int .i64 th] 38
    simp only [List.length_cons, List.length_nil] at n1 n2 p1 p2
    clear hb l1 l2 l3 l4 l5 l6 l7 l8
    have HBM := Lib.hid BM
    clear BM
    simp only [topV]
    go_wp2_with fail
    generalize w3.alloc (.cells #[.bool lv, .bool false, .int .i64 th] 38) = w4 at *
    refine (last_any _ _ (⟨lv, false, th⟩ :: r) (⟨code, ptr, run, ex, rc⟩ :: q) (HI3.out.st hml hal)).mono ?_
    rintro e w5 ⟨rfl, hb⟩
    have hreslt5 := (HI3.out.call hb).res.lt
    have HL5 := Lib.hid hreslt5
    clear hreslt5
    have hown5 := (HI3.out.call hb).own.2.lt
    have HO5 := Lib.hid hown5
    clear hown5
    have HI5 := Lib.hid ((HI3.out.call hb).alloc (.cells #[.int .i64 code, .int .i64 ptr, .int .i64 run, .bool ex, .bool rc] 32))
    obtain ⟨p1, p2, p3, p4, p5, p6, p7, p8⟩ := (HI3.out.call hb).boxCells
    have hlt5 := (HI3.out.call hb).box.lt
    obtain ⟨q1, q2, q3, q4, q5, q6, q7, q8⟩ := HI5.out.boxCells
    have BM5 := (HBM.out.call hb)
    obtain ⟨m0, m1, m2, _, _, _⟩ := BM5.three
    have mlt := BM5.lt
    obtain ⟨a0, a1, a2, a3, a4⟩ := blk5 (Blk.new w5 #[.int .i64 code, .int .i64 ptr, .int .i64 run, .bool ex, .bool rc] 32)
    obtain ⟨m00, m01, m02, _, _, _⟩ := (BM5.alloc (.cells #[.int .i64 code, .int .i64 ptr, .int .i64 run, .bool ex, .bool rc] 32)).three
    simp only [List.length_cons, List.length_nil] at q1 q2 p1 p2
    clear hb n1 n2 n3 n4 n5 n6 n7 n8 BM5
    simp only [lastV]
    go_wp2_with fail
    exact bodyPost_ret (v := recF 0 0 false (.agg #[.slice A3 (r.length + 1) c3, .slice A4 (q.length + 1) c4])) (by simp [recF, results, Try.results17, go_sem, q5, q6, p5, p6]) rfl (HI5.out.gives (recF 0 0 false))
  · go_enter Try.func17, Try.ntmps17
    go_wp2_with fail
    refine (own_any _ _ (⟨lv, true, th⟩ :: r) (⟨code, ptr, run, ex, rc⟩ :: q) (HS.out.below (fresh_alloc (fresh_alloc (Below.refl _ _) _) _))).mono ?_
    intro e w1 hg
    obtain ⟨A3, c3, A4, c4, rfl, k1, k2, k3, k4, hin⟩ := inner_own hg
    simp only [List.length_nil, List.length_cons] at hin k1 k2
    have HIN := Lib.hid hin
    clear hg hin
    have hlt := HIN.out.lt
    dsimp only
    obtain ⟨l1, l2, l3, l4, l5, l6, l7, l8⟩ := HIN.out.boxCells
    go_wp2_with fail
    generalize ((w1.setCell ⟨w.heap.size, 0, none⟩ (.slice A3 (r.length + 1) c3)).setCell ⟨w.heap.size, 1, none⟩ (.slice A4 (q.length + 1) c4)) = w2 at *
    refine (top_any _ _ (⟨lv, true, th⟩ :: r) (⟨code, ptr, run, ex, rc⟩ :: q) (HIN.out.st hml hal)).mono ?_
    rintro e w3 ⟨rfl, hb⟩
    have HI3 := Lib.hid ((HIN.out.call hb).alloc (.cells #[.bool lv, .bool true, .int .i64 th] 38))
    obtain ⟨p1, p2, p3, p4, p5, p6, p7, p8⟩ := (HIN.out.call hb).boxCells
    have hlt3 := (HIN.out.call hb).box.lt
    obtain ⟨n1, n2, n3, n4, n5, n6, n7, n8⟩ := HI3.out.boxCells
    have BM := Blk.new w3 #[.bool lv, .bool true, .int .i64 th] 38
    simp only [List.length_cons, List.length_nil] at n1 n2 p1 p2
    clear hb l1 l2 l3 l4 l5 l6 l7 l8
    have HBM := Lib.hid BM
    clear BM
    simp only [topV]
    go_wp2_with fail
    generalize w3.alloc (.cells #[.bool lv, .bool true, .int .i64 th] 38) = w4 at *
    refine (last_any _ _ (⟨lv, true, th⟩ :: r) (⟨code, ptr, run, ex, rc⟩ :: q) (HI3.out.st hml hal)).mono ?_
    rintro e w5 ⟨rfl, hb⟩
    have hreslt5 := (HI3.out.call hb).res.lt
    have HL5 := Lib.hid hreslt5
    clear hreslt5
    have hown5 := (HI3.out.call hb).own.2.lt
    have HO5 := Lib.hid hown5
    clear hown5
    have HI5 := Lib.hid ((HI3.out.call hb).alloc (.cells #[.int .i64 code, .int .i64 ptr, .int .i64 run, .bool ex, .bool rc] 32))
    obtain ⟨p1, p2, p3, p4, p5, p6, p7, p8⟩ := (HI3.out.call hb).boxCells
    have hlt5 := (HI3.out.call hb).box.lt
    obtain ⟨q1, q2, q3, q4, q5, q6, q7, q8⟩ := HI5.out.boxCells
    have BM5 := (HBM.out.call hb)
    obtain ⟨m0, m1, m2, _, _, _⟩ := BM5.three
    have mlt := BM5.lt
    obtain ⟨a0, a1, a2, a3, a4⟩ := blk5 (Blk.new w5 #[.int .i64 code, .int .i64 ptr, .int .i64 run, .bool ex, .bool rc] 32)
    obtain ⟨m00, m01, m02, _, _, _⟩ := (BM5.alloc (.cells #[.int .i64 code, .int .i64 ptr, .int .i64 run, .bool ex, .bool rc] 32)).three
    simp only [List.length_cons, List.length_nil] at q1 q2 p1 p2
    clear hb n1 n2 n3 n4 n5 n6 n7 n8 BM5
    simp only [lastV]
    go_wp2_with fail
    exact bodyPost_ret (v := recF 0 0 false (.agg #[.slice A3 (r.length + 1) c3, .slice A4 (q.length + 1) c4])) (by simp [recF, results, Try.results17, go_sem, q5, q6, p5, p6]) rfl (HI5.out.gives (recF 0 0 false))
  · go_enter Try.func17, Try.ntmps17
    go_wp2_with fail
    refine (own_any _ _ (⟨lv, true, th⟩ :: r) (⟨code, ptr, run, true, rc⟩ :: q) (HS.out.below (fresh_alloc (fresh_alloc (Below.refl _ _) _) _))).mono ?_
    intro e w1 hg
    obtain ⟨A3, c3, A4, c4, rfl, k1, k2, k3, k4, hin⟩ := inner_own hg
    simp only [List.length_nil, List.length_cons] at hin k1 k2
    have HIN := Lib.hid hin
    clear hg hin
    have hlt := HIN.out.lt
    dsimp only
    obtain ⟨l1, l2, l3, l4, l5, l6, l7, l8⟩ := HIN.out.boxCells
    go_wp2_with fail
    generalize ((w1.setCell ⟨w.heap.size, 0, none⟩ (.slice A3 (r.length + 1) c3)).setCell ⟨w.heap.size, 1, none⟩ (.slice A4 (q.length + 1) c4)) = w2 at *
    refine (top_any _ _ (⟨lv, true, th⟩ :: r) (⟨code, ptr, run, true, rc⟩ :: q) (HIN.out.st hml hal)).mono ?_
    rintro e w3 ⟨rfl, hb⟩
    have HI3 := Lib.hid ((HIN.out.call hb).alloc (.cells #[.bool lv, .bool true, .int .i64 th] 38))
    obtain ⟨p1, p2, p3, p4, p5, p6, p7, p8⟩ := (HIN.out.call hb).boxCells
    have hlt3 := (HIN.out.call hb).box.lt
    obtain ⟨n1, n2, n3, n4, n5, n6, n7, n8⟩ := HI3.out.boxCells
    have BM := Blk.new w3 #[.bool lv, .bool true, .int .i64 th] 38
    simp only [List.length_cons, List.length_nil] at n1 n2 p1 p2
    clear hb l1 l2 l3 l4 l5 l6 l7 l8
    have HBM := Lib.hid BM
    clear BM
    simp only [topV]
    go_wp2_with fail
    generalize w3.alloc (.cells #[.bool lv, .bool true, .int .i64 th] 38) = w4 at *
    refine (last_any _ _ (⟨lv, true, th⟩ :: r) (⟨code, ptr, run, true, rc⟩ :: q) (HI3.out.st hml hal)).mono ?_
    rintro e w5 ⟨rfl, hb⟩
    have hreslt5 := (HI3.out.call hb).res.lt
    have HL5 := Lib.hid hreslt5
    clear hreslt5
    have hown5 := (HI3.out.call hb).own.2.lt
    have HO5 := Lib.hid hown5
    clear hown5
    have HI5 := Lib.hid ((HI3.out.call hb).alloc (.cells #[.int .i64 code, .int .i64 ptr, .int .i64 run, .bool true, .bool rc] 32))
    obtain ⟨p1, p2, p3, p4, p5, p6, p7, p8⟩ := (HI3.out.call hb).boxCells
    have hlt5 := (HI3.out.call hb).box.lt
    obtain ⟨q1, q2, q3, q4, q5, q6, q7, q8⟩ := HI5.out.boxCells
    have BM5 := (HBM.out.call hb)
    obtain ⟨m0, m1, m2, _, _, _⟩ := BM5.three
    have mlt := BM5.lt
    obtain ⟨a0, a1, a2, a3, a4⟩ := blk5 (Blk.new w5 #[.int .i64 code, .int .i64 ptr, .int .i64 run, .bool true, .bool rc] 32)
    obtain ⟨m00, m01, m02, _, _, _⟩ := (BM5.alloc (.cells #[.int .i64 code, .int .i64 ptr, .int .i64 run, .bool true, .bool rc] 32)).three
    simp only [List.length_cons, List.length_nil] at q1 q2 p1 p2
    clear hb n1 n2 n3 n4 n5 n6 n7 n8 BM5
    simp only [lastV]
    go_wp2_with fail
    exact bodyPost_ret (v := recF 0 0 false (.agg #[.slice A3 (r.length + 1) c3, .slice A4 (q.length + 1) c4])) (by simp [recF, results, Try.results17, go_sem, q5, q6, p5, p6]) rfl (HI5.out.gives (recF 0 0 false))
  · go_enter Try.func17, Try.ntmps17
    go_wp2_with fail
    refine (own_any _ _ (⟨lv, true, th⟩ :: r) (⟨code, ptr, run, false, true⟩ :: q) (HS.out.below (fresh_alloc (fresh_alloc (Below.refl _ _) _) _))).mono ?_
    intro e w1 hg
    obtain ⟨A3, c3, A4, c4, rfl, k1, k2, k3, k4, hin⟩ := inner_own hg
    simp only [List.length_nil, List.length_cons] at hin k1 k2
    have HIN := Lib.hid hin
    clear hg hin
    have hlt := HIN.out.lt
    dsimp only
    obtain ⟨l1, l2, l3, l4, l5, l6, l7, l8⟩ := HIN.out.boxCells
    go_wp2_with fail
    generalize ((w1.setCell ⟨w.heap.size, 0, none⟩ (.slice A3 (r.length + 1) c3)).setCell ⟨w.heap.size, 1, none⟩ (.slice A4 (q.length + 1) c4)) = w2 at *
    refine (top_any _ _ (⟨lv, true, th⟩ :: r) (⟨code, ptr, run, false, true⟩ :: q) (HIN.out.st hml hal)).mono ?_
    rintro e w3 ⟨rfl, hb⟩
    have HI3 := Lib.hid ((HIN.out.call hb).alloc (.cells #[.bool lv, .bool true, .int .i64 th] 38))
    obtain ⟨p1, p2, p3, p4, p5, p6, p7, p8⟩ := (HIN.out.call hb).boxCells
    have hlt3 := (HIN.out.call hb).box.lt
    obtain ⟨n1, n2, n3, n4, n5, n6, n7, n8⟩ := HI3.out.boxCells
    have BM := Blk.new w3 #[.bool lv, .bool true, .int .i64 th] 38
    simp only [List.length_cons, List.length_nil] at n1 n2 p1 p2
    clear hb l1 l2 l3 l4 l5 l6 l7 l8
    have HBM := Lib.hid BM
    clear BM
    simp only [topV]
    go_wp2_with fail
    generalize w3.alloc (.cells #[.bool lv, .bool true, .int .i64 th] 38) = w4 at *
    refine (last_any _ _ (⟨lv, true, th⟩ :: r) (⟨code, ptr, run, false, true⟩ :: q) (HI3.out.st hml hal)).mono ?_
    rintro e w5 ⟨rfl, hb⟩
    have hreslt5 := (HI3.out.call hb).res.lt
    have HL5 := Lib.hid hreslt5
    clear hreslt5
    have hown5 := (HI3.out.call hb).own.2.lt
    have HO5 := Lib.hid hown5
    clear hown5
    have HI5 := Lib.hid ((HI3.out.call hb).alloc (.cells #[.int .i64 code, .int .i64 ptr, .int .i64 run, .bool false, .bool true] 32))
    obtain ⟨p1, p2, p3, p4, p5, p6, p7, p8⟩ := (HI3.out.call hb).boxCells
    have hlt5 := (HI3.out.call hb).box.lt
    obtain ⟨q1, q2, q3, q4, q5, q6, q7, q8⟩ := HI5.out.boxCells
    have BM5 := (HBM.out.call hb)
    obtain ⟨m0, m1, m2, _, _, _⟩ := BM5.three
    have mlt := BM5.lt
    obtain ⟨a0, a1, a2, a3, a4⟩ := blk5 (Blk.new w5 #[.int .i64 code, .int .i64 ptr, .int .i64 run, .bool false, .bool true] 32)
    obtain ⟨m00, m01, m02, _, _, _⟩ := (BM5.alloc (.cells #[.int .i64 code, .int .i64 ptr, .int .i64 run, .bool false, .bool true] 32)).three
    simp only [List.length_cons, List.length_nil] at q1 q2 p1 p2
    clear hb n1 n2 n3 n4 n5 n6 n7 n8 BM5
    simp only [lastV]
    go_wp2_with fail
    exact bodyPost_ret (v := recF 0 0 false (.agg #[.slice A3 (r.length + 1) c3, .slice A4 (q.length + 1) c4])) (by simp [recF, results, Try.results17, go_sem, q5, q6, p5, p6]) rfl (HI5.out.gives (recF 0 0 false))

set_option maxHeartbeats 2000000 in
theorem recover_y (w : World) (v : Value) (lv : Bool) (th code ptr : Int) (r : List Mk) (q : List Al) (h : St w v (⟨lv, true, th⟩ :: r) (⟨code, ptr, (r.length : Int) + 1, false, false⟩ :: q)) :
    Calls Try.prog 17 #[v] w (Gives (recF code ptr true) (⟨lv, true, th⟩ :: r) (⟨code, ptr, (r.length : Int) + 1, false, true⟩ :: q) w) := by
  have HS := Lib.hid h
  obtain ⟨A, c, A', c', rfl, _, _, hml, hal⟩ := h
  simp only [List.length_cons] at hml hal
  have hne : (((r.length : Int) + 1) != ((r.length : Int) + 1)) = false := by simp
  go_enter Try.func17, Try.ntmps17
  go_wp2_with fail
  refine (own_any _ _ (⟨lv, true, th⟩ :: r) (⟨code, ptr, ((r.length : Int) + 1), false, false⟩ :: q) (HS.out.below (fresh_alloc (fresh_alloc (Below.refl _ _) _) _))).mono ?_
  intro e w1 hg
  obtain ⟨A3, c3, A4, c4, rfl, k1, k2, k3, k4, hin⟩ := inner_own hg
  simp only [List.length_nil, List.length_cons] at hin k1 k2
  have HIN := Lib.hid hin
  clear hg hin
  have hlt := HIN.out.lt
  dsimp only
  obtain ⟨l1, l2, l3, l4, l5, l6, l7, l8⟩ := HIN.out.boxCells
  go_wp2_with fail
  generalize ((w1.setCell ⟨w.heap.size, 0, none⟩ (.slice A3 (r.length + 1) c3)).setCell ⟨w.heap.size, 1, none⟩ (.slice A4 (q.length + 1) c4)) = w2 at *
  refine (top_any _ _ (⟨lv, true, th⟩ :: r) (⟨code, ptr, ((r.length : Int) + 1), false, false⟩ :: q) (HIN.out.st hml hal)).mono ?_
  rintro e w3 ⟨rfl, hb⟩
  have HI3 := Lib.hid ((HIN.out.call hb).alloc (.cells #[.bool lv, .bool true, .int .i64 th] 38))
  obtain ⟨p1, p2, p3, p4, p5, p6, p7, p8⟩ := (HIN.out.call hb).boxCells
  have hlt3 := (HIN.out.call hb).box.lt
  obtain ⟨n1, n2, n3, n4, n5, n6, n7, n8⟩ := HI3.out.boxCells
  have BM := Blk.new w3 #[.bool lv, .bool true, .int .i64 th] 38
  simp only [List.length_cons, List.length_nil] at n1 n2 p1 p2
  clear hb l1 l2 l3 l4 l5 l6 l7 l8
  have HBM := Lib.hid BM
  clear BM
  simp only [topV]
  go_wp2_with fail
  generalize w3.alloc (.cells #[.bool lv, .bool true, .int .i64 th] 38) = w4 at *
  refine (last_any _ _ (⟨lv, true, th⟩ :: r) (⟨code, ptr, ((r.length : Int) + 1), false, false⟩ :: q) (HI3.out.st hml hal)).mono ?_
  rintro e w5 ⟨rfl, hb⟩
  have hreslt5 := (HI3.out.call hb).res.lt
  have HL5 := Lib.hid hreslt5
  clear hreslt5
  have hown5 := (HI3.out.call hb).own.2.lt
  have HO5 := Lib.hid hown5
  clear hown5
  have HI5 := Lib.hid ((HI3.out.call hb).alloc (.cells #[.int .i64 code, .int .i64 ptr, .int .i64 ((r.length : Int) + 1), .bool false, .bool false] 32))
  obtain ⟨p1, p2, p3, p4, p5, p6, p7, p8⟩ := (HI3.out.call hb).boxCells
  have hlt5 := (HI3.out.call hb).box.lt
  obtain ⟨q1, q2, q3, q4, q5, q6, q7, q8⟩ := HI5.out.boxCells
  have BM5 := (HBM.out.call hb)
  obtain ⟨m0, m1, m2, _, _, _⟩ := BM5.three
  have mlt := BM5.lt
  obtain ⟨a0, a1, a2, a3, a4⟩ := blk5 (Blk.new w5 #[.int .i64 code, .int .i64 ptr, .int .i64 ((r.length : Int) + 1), .bool false, .bool false] 32)
  obtain ⟨m00, m01, m02, _, _, _⟩ := (BM5.alloc (.cells #[.int .i64 code, .int .i64 ptr, .int .i64 ((r.length : Int) + 1), .bool false, .bool false] 32)).three
  simp only [List.length_cons, List.length_nil] at q1 q2 p1 p2
  clear hb n1 n2 n3 n4 n5 n6 n7 n8 BM5
  simp only [lastV]
  obtain ⟨g, rfl, hg, c0, c1, c2, c3', c4', hf⟩ := HI5.out.headA
  have f2 := hf (q.length * 5 + 4)
  have hg3 := (HI5.out.own.2.lt g rfl).2
  have hg4 : g ≠ w5.heap.size := Nat.ne_of_lt (HO5.out g rfl).2
  have HI6 := Lib.hid (Inner.setA HI5.out (q.length * 5 + 4) (.bool true) (al' := ⟨code, ptr, (r.length : Int) + 1, false, true⟩ :: q) rfl (set_rc _ q true))
  obtain ⟨r1, r2, r3, r4, r5, r6, r7, r8⟩ := HI6.out.boxCells
  simp only [List.length_cons] at r1 r2
  clear hf
  go_wp2_with fail
  have g0 := (World.cell?_setCell_far (w5.alloc (.cells #[.int .i64 code, .int .i64 ptr, .int .i64 ((r.length : Int) + 1), .bool false, .bool false] 32)) ⟨g, q.length * 5 + 4, none⟩ ⟨w5.heap.size, 0, none⟩ (.bool true) hg4).trans a0
  have g1 := (World.cell?_setCell_far (w5.alloc (.cells #[.int .i64 code, .int .i64 ptr, .int .i64 ((r.length : Int) + 1), .bool false, .bool false] 32)) ⟨g, q.length * 5 + 4, none⟩ ⟨w5.heap.size, 1, none⟩ (.bool true) hg4).trans a1
  generalize (w5.alloc (.cells #[.int .i64 code, .int .i64 ptr, .int .i64 ((r.length : Int) + 1), .bool false, .bool false] 32)).setCell ⟨g, q.length * 5 + 4, none⟩ (.bool true) = w6 at *
  have hS := Lib.hid (show w6.drew.cell? ⟨w.heap.size, 0, none⟩ = some (.slice A3 (r.length + 1) c3) ∧ w6.drew.cell? ⟨w.heap.size, 1, none⟩ = some (.slice (some ⟨g, 0, none⟩) (q.length + 1) c4) ∧ w6.drew.cell? ⟨w5.heap.size, 0, none⟩ = some (.int .i64 code) ∧ w6.drew.cell? ⟨w5.heap.size, 1, none⟩ = some (.int .i64 ptr) from ⟨r1, r2, g0, g1⟩)
  have hd5 : w.heap.size + 1 ≠ w5.heap.size := by have := HL5.out; omega
  clear q1 q2 q3 q4 q5 q6 q7 q8 p1 p2 p3 p4 p5 p6 p7 p8 m0 m1 m2 m00 m01 m02 a0 a1 a2 a3 a4 c0 c1 c2 c3' c4' hg3 mlt hlt5 hlt3 hg4 g0 g1
  go_region_held3 (fun w' => w'.cell? ⟨w.heap.size, 0, none⟩ = some (.slice A3 (r.length + 1) c3) ∧ w'.cell? ⟨w.heap.size, 1, none⟩ = some (.slice (some ⟨g, 0, none⟩) (q.length + 1) c4) ∧ w'.cell? ⟨w5.heap.size, 0, none⟩ = some (.int .i64 code) ∧ w'.cell? ⟨w5.heap.size, 1, none⟩ = some (.int .i64 ptr))
    (first | exact hS.out | exact keep4 hd5 (by assumption))
    (fail)
  go_wp2_with fail
  refine bodyPost_ret (v := recF code ptr true (.agg #[.slice A3 (r.length + 1) c3, .slice (some ⟨g, 0, none⟩) (q.length + 1) c4])) (by simp [recF, results, Try.results17, go_sem, r5, r6]) rfl ?_
  first
    | exact gives_drew (HI6.out.gives (recF code ptr true))
    | exact HI6.out.drew.gives (recF code ptr true)

theorem recover_any (w : World) (v : Value) (ms : List Mk) (al : List Al) (h : St w v ms al) :
    Calls Try.prog 17 #[v] w (Recovers ms al w) := by
  unfold Recovers
  rcases ms with _ | ⟨⟨lv, df, th⟩, r⟩
  · rw [show canRec [] al = false from rfl]
    exact recover_n1 w v al h
  rcases al with _ | ⟨⟨code, ptr, run, ex, rc⟩, q⟩
  · rw [show canRec (⟨lv, df, th⟩ :: r) [] = false from rfl]
    exact recover_n2 w v lv df th r h
  by_cases hc : canRec (⟨lv, df, th⟩ :: r) (⟨code, ptr, run, ex, rc⟩ :: q) = true
  · rw [hc]
    have hd : df = true ∧ run = (r.length : Int) + 1 ∧ ex = false ∧ rc = false := by
      unfold canRec at hc
      simpa [and_assoc] using hc
    obtain ⟨rfl, rfl, rfl, rfl⟩ := hd
    exact recover_y w v lv th code ptr r q h
  · have hc' : canRec (⟨lv, df, th⟩ :: r) (⟨code, ptr, run, ex, rc⟩ :: q) = false := by simpa using hc
    rw [hc']
    exact recover_n3 w v lv df ex rc th code ptr run r q hc' h
end Go.Proofs.Ytjlbmelpoaffpaa.Unw
