/- Package unwind: a variable of a law that holds a state, and what a call gives. -/
import Derived.Test.YtjlbmelpoaffpaaUnw12
import Derived.Test.YtjlbmelpoaffpaaUnw7
namespace Go.Proofs.Ytjlbmelpoaffpaa.Unw
open Go.RowKit
set_option linter.unusedSimpArgs false
set_option linter.unusedVariables false

/-- The rows of a state, with their lengths by number. -/
def OwnedN (B : Nat) (w : World) (ms : List Mk) (al : List Al) (n k : Nat) (A : Option Addr) (c : Nat) (A' : Option Addr) (c' : Nat) : Prop :=
  ms.length = n ∧ al.length = k ∧ w.ownsRow B 38 3 (.slice A n c) n (mc ms) ∧ w.ownsRow B 32 5 (.slice A' k c') k (ac al)
theorem OwnedN.st {B : Nat} {w : World} {ms : List Mk} {al : List Al} {n k : Nat} {A : Option Addr} {c : Nat} {A' : Option Addr} {c' : Nat} (h : OwnedN B w ms al n k A c A' c') (hn : n ≤ 1000) (hk : k ≤ 1000) : St w (.agg #[.slice A n c, .slice A' k c']) ms al := by
  obtain ⟨rfl, rfl, h1, h2⟩ := h
  exact St.of_owned ⟨h1, h2⟩ hn hk
theorem OwnedN.call {B : Nat} {w w' : World} {ms : List Mk} {al : List Al} {n k : Nat} {A : Option Addr} {c : Nat} {A' : Option Addr} {c' : Nat} (h : OwnedN B w ms al n k A c A' c') (hb : Below w.heap.size w w') : OwnedN B w' ms al n k A c A' c' :=
  ⟨h.1, h.2.1, own_below h.2.2.1 hb, own_below h.2.2.2 hb⟩
theorem OwnedN.mono {B B' : Nat} {w : World} {ms : List Mk} {al : List Al} {n k : Nat} {A : Option Addr} {c : Nat} {A' : Option Addr} {c' : Nat} (h : OwnedN B w ms al n k A c A' c') (hb : B' ≤ B) : OwnedN B' w ms al n k A c A' c' :=
  ⟨h.1, h.2.1, own_mono h.2.2.1 hb, own_mono h.2.2.2 hb⟩
/-- What a call gave. -/
theorem Gives.take {F : Value → Value} {w w' : World} {e : Ending} {ms : List Mk} {al : List Al} {n k : Nat} (h : Gives F ms al w e w') (hn : ms.length = n) (hk : al.length = k) :
    ∃ A c A' c', e = .returned (F (.agg #[.slice A n c, .slice A' k c'])) ∧ OwnedN w.heap.size w' ms al n k A c A' c' ∧ Below w.heap.size w w' := by
  subst hn hk
  obtain ⟨A, c, A', c', he, ho, hb⟩ := h
  exact ⟨A, c, A', c', he, ⟨rfl, rfl, ho.1, ho.2⟩, hb⟩
/-- Block b is a variable that holds a state; all this is new since w0. -/
structure Var (w0 w : World) (b : Nat) (ms : List Mk) (al : List Al) (n k : Nat) (A : Option Addr) (c : Nat) (A' : Option Addr) (c' : Nat) : Prop where
  blk : Blk w b #[.slice A n c, .slice A' k c'] 26
  own : OwnedN w0.heap.size w ms al n k A c A' c'
  below : Below w0.heap.size w0 w
  new : w0.heap.size ≤ b
namespace Var
variable {w0 w w' : World} {B b : Nat} {ms ms' : List Mk} {al al' : List Al} {n k n' k' : Nat} {A A2 : Option Addr} {c c2 : Nat} {A' A3 : Option Addr} {c' c3 : Nat}
theorem start (hw : Below w0.heap.size w0 w) (h : OwnedN B w ms al n k A c A' c') (hB : w0.heap.size ≤ B) : Var w0 (w.alloc (.cells #[.slice A n c, .slice A' k c'] 26)) w.heap.size ms al n k A c A' c' :=
  ⟨Blk.new w _ _, (h.mono hB).call ((Below.refl _ _).alloc (Nat.le_refl _) _), fresh_alloc hw _, hw.size⟩
theorem call (h : Var w0 w b ms al n k A c A' c') (hb : Below w.heap.size w w') : Var w0 w' b ms al n k A c A' c' :=
  ⟨h.blk.call hb, h.own.call hb, fresh_call h.below hb, h.new⟩
theorem alloc (h : Var w0 w b ms al n k A c A' c') (o : Obj) : Var w0 (w.alloc o) b ms al n k A c A' c' := h.call ((Below.refl _ _).alloc (Nat.le_refl _) o)
theorem cells (h : Var w0 w b ms al n k A c A' c') : w.cell? ⟨b, 0, none⟩ = some (.slice A n c) ∧ w.cell? ⟨b, 1, none⟩ = some (.slice A' k c') ∧ w.frozen? ⟨b, 0, none⟩ = false ∧ w.frozen? ⟨b, 1, none⟩ = false := h.blk.two
/-- A new state is stored. -/
theorem put (h : Var w0 w b ms al n k A c A' c') (ho : OwnedN w0.heap.size w ms' al' n' k' A2 c2 A3 c3) :
    Var w0 ((w.setCell ⟨b, 0, none⟩ (.slice A2 n' c2)).setCell ⟨b, 1, none⟩ (.slice A3 k' c3)) b ms' al' n' k' A2 c2 A3 c3 := by
  have B3 := h.blk.set 0 (.slice A2 n' c2)
  refine ⟨B3.set 1 (.slice A3 k' c3), ⟨ho.1, ho.2.1, ?_, ?_⟩, (h.below.setCell h.new _).setCell h.new _, h.new⟩
  · exact own_set (own_set ho.2.2.1 h.blk (by decide)) B3 (by decide)
  · exact own_set (own_set ho.2.2.2 h.blk (by decide)) B3 (by decide)
theorem gave (h : Var w0 w b ms al n k A c A' c') (ho : OwnedN w.heap.size w' ms' al' n' k' A2 c2 A3 c3) (hb : Below w.heap.size w w') :
    Var w0 w' b ms al n k A c A' c' ∧ OwnedN w0.heap.size w' ms' al' n' k' A2 c2 A3 c3 := ⟨h.call hb, ho.mono h.below.size⟩
theorem headA {a : Al} {q : List Al} (h : Var w0 w b ms (a :: q) n k A c A' c') :
    ∃ g, A' = some ⟨g, 0, none⟩ ∧ w.cell? ⟨g, q.length * 5, none⟩ = some (.int .i64 a.code) ∧ w.cell? ⟨g, q.length * 5 + 1, none⟩ = some (.int .i64 a.ptr) ∧ w.cell? ⟨g, q.length * 5 + 2, none⟩ = some (.int .i64 a.run) ∧
      w.cell? ⟨g, q.length * 5 + 3, none⟩ = some (.bool a.ex) ∧ w.cell? ⟨g, q.length * 5 + 4, none⟩ = some (.bool a.rc) := by
  obtain ⟨b', off, e, _, hc⟩ := lastA (Reads.of_own h.own.2.2.2)
  have h1 := h.own.2.2.2
  have hk := h.own.2.1
  rcases h1.2 with ⟨_, h0⟩ | ⟨g, cap, cur, he, _⟩
  · rw [h0] at hk; simp at hk
  · injection he with h3 h4 h5
    rw [h3] at e
    injection e with e
    injection e with e1 e2
    subst e1 e2
    refine ⟨g, h3, ?_⟩
    simpa using hc
theorem headM {m : Mk} {r : List Mk} (h : Var w0 w b (m :: r) al n k A c A' c') :
    ∃ g, A = some ⟨g, 0, none⟩ ∧ w.cell? ⟨g, r.length * 3, none⟩ = some (.bool m.lv) ∧ w.cell? ⟨g, r.length * 3 + 1, none⟩ = some (.bool m.df) ∧ w.cell? ⟨g, r.length * 3 + 2, none⟩ = some (.int .i64 m.th) := by
  obtain ⟨b', off, e, _, hc⟩ := lastM (Reads.of_own h.own.2.2.1)
  have h1 := h.own.2.2.1
  have hk := h.own.1
  rcases h1.2 with ⟨_, h0⟩ | ⟨g, cap, cur, he, _⟩
  · rw [h0] at hk; simp at hk
  · injection he with h3 h4 h5
    rw [h3] at e
    injection e with e
    injection e with e1 e2
    subst e1 e2
    refine ⟨g, h3, ?_⟩
    simpa using hc
end Var
theorem St.empty (w : World) : St w (.agg #[.slice none 0 0, .slice none 0 0]) [] [] := ⟨none, 0, none, 0, rfl, Reads.nil_, Reads.nil_, by simp, by simp⟩


/-- The same, and what it gave is stored in a variable. -/
theorem Var.stored {w0 w w' : World} {b : Nat} {ms ms' : List Mk} {al al' : List Al} {n k n' k' : Nat} {A A2 : Option Addr} {c c2 : Nat} {A' A3 : Option Addr} {c' c3 : Nat} (h : Var w0 w b ms al n k A c A' c')
    (ho : OwnedN w.heap.size w' ms' al' n' k' A2 c2 A3 c3) (hb : Below w.heap.size w w') :
    w'.cell? ⟨b, 0, none⟩ = some (.slice A n c) ∧ w'.cell? ⟨b, 1, none⟩ = some (.slice A' k c') ∧ w'.frozen? ⟨b, 0, none⟩ = false ∧ w'.frozen? ⟨b, 1, none⟩ = false ∧
      Var w0 ((w'.setCell ⟨b, 0, none⟩ (.slice A2 n' c2)).setCell ⟨b, 1, none⟩ (.slice A3 k' c3)) b ms' al' n' k' A2 c2 A3 c3 := by
  obtain ⟨h1, h2⟩ := h.gave ho hb
  obtain ⟨k1, k2, k3, k4⟩ := h1.cells
  exact ⟨k1, k2, k3, k4, h1.put h2⟩
theorem OwnedN.nil (B : Nat) (w : World) : OwnedN B w [] [] 0 0 none 0 none 0 := ⟨rfl, rfl, World.ownsRow_nil _ _ _ _, World.ownsRow_nil _ _ _ _⟩
theorem Var.atM {w0 w : World} {b g : Nat} {m : Mk} {r : List Mk} {al : List Al} {n k c : Nat} {A' : Option Addr} {c' : Nat} (h : Var w0 w b (m :: r) al n k (some ⟨g, 0, none⟩) c A' c') :
    w.cell? ⟨g, r.length * 3, none⟩ = some (.bool m.lv) ∧ w.cell? ⟨g, r.length * 3 + 1, none⟩ = some (.bool m.df) ∧ w.cell? ⟨g, r.length * 3 + 2, none⟩ = some (.int .i64 m.th) := by
  obtain ⟨g', e, h⟩ := h.headM
  injection e with e
  injection e with e
  subst e
  exact h
theorem Var.atA {w0 w : World} {b g : Nat} {a : Al} {q : List Al} {ms : List Mk} {n k c : Nat} {A : Option Addr} {c' : Nat} (h : Var w0 w b ms (a :: q) n k A c (some ⟨g, 0, none⟩) c') :
    w.cell? ⟨g, q.length * 5, none⟩ = some (.int .i64 a.code) ∧ w.cell? ⟨g, q.length * 5 + 1, none⟩ = some (.int .i64 a.ptr) ∧ w.cell? ⟨g, q.length * 5 + 2, none⟩ = some (.int .i64 a.run) ∧
      w.cell? ⟨g, q.length * 5 + 3, none⟩ = some (.bool a.ex) ∧ w.cell? ⟨g, q.length * 5 + 4, none⟩ = some (.bool a.rc) := by
  obtain ⟨g', e, h⟩ := h.headA
  injection e with e
  injection e with e
  subst e
  exact h
theorem Gives.as {F : Value → Value} {w w' : World} {e : Ending} {ms ms' : List Mk} {al al' : List Al} (h : Gives F ms al w e w') (hm : ms = ms') (ha : al = al') : Gives F ms' al' w e w' := hm ▸ ha ▸ h
theorem recover_yes (w : World) (v : Value) (ms : List Mk) (a : Al) (q : List Al) (h : St w v ms (a :: q)) (hc : canRec ms (a :: q) = true) :
    Calls Try.prog 17 #[v] w (Gives (recF a.code a.ptr true) ms ({ a with rc := true } :: q) w) := by
  have := recover_any w v ms (a :: q) h
  unfold Recovers at this
  rw [hc] at this
  exact this
theorem recover_no (w : World) (v : Value) (ms : List Mk) (al : List Al) (h : St w v ms al) (hc : canRec ms al = false) :
    Calls Try.prog 17 #[v] w (Gives (recF 0 0 false) ms al w) := by
  have := recover_any w v ms al h
  unfold Recovers at this
  rw [hc] at this
  exact this

set_option maxHeartbeats 1000000 in
theorem alive (w : World) : Calls Try.prog 9 #[] w fun e w' => e = .returned (.bool true) ∧ Below w.heap.size w w' := by
  go_enter Try.func9, Try.ntmps9
  go_wp2_with fail
  refine (enter_any _ _ [] [] (St.empty w)).mono ?_
  intro e w1 hg
  obtain ⟨A1, c1, A1', c1', rfl, ho1, hb1⟩ := hg.take (n := 1) (k := 0) rfl rfl
  have H1 := Lib.hid ho1
  clear ho1 hg
  dsimp only [id]
  go_wp2_with fail
  refine (defer_any _ _ [⟨false, false, 0⟩] [] (H1.out.st (by omega) (by omega)) (by intro m hm; simp at hm; subst hm; decide)).mono ?_
  intro e w2 hg
  obtain ⟨A2, c2, A2', c2', rfl, ho2, hb2⟩ := (hg.as (ms' := [⟨false, false, 1⟩]) (al' := []) rfl rfl).take (n := 1) (k := 0) rfl rfl
  have hw2 := fresh_call hb1 hb2
  have V2 := Lib.hid (Var.start hw2 ho2 hb1.size)
  obtain ⟨k1, k2, k3, k4⟩ := V2.out.cells
  clear hg ho2 hb1 hb2 hw2
  simp only [show deferB [⟨false, false, 0⟩] = true from rfl]
  go_wp2_with fail
  generalize w2.alloc (.cells #[.slice A2 1 c2, .slice A2' 0 c2'] 26) = w3 at *
  generalize w2.heap.size = b at *
  refine (panic_any _ _ 5 0 _ _ (V2.out.own.st (by omega) (by omega))).mono ?_
  intro e w4 hg
  obtain ⟨A4, c4, A4', c4', rfl, ho, hb⟩ := hg.take (n := 1) (k := 1) rfl rfl
  obtain ⟨k1, k2, k3, k4, hv⟩ := V2.out.stored ho hb
  have V4 := Lib.hid hv
  obtain ⟨l1, l2, l3, l4⟩ := hv.cells
  clear V2 hg ho hb hv
  dsimp only [id]
  go_wp2_with fail
  generalize (w4.setCell ⟨b, 0, none⟩ (.slice A4 1 c4)).setCell ⟨b, 1, none⟩ (.slice A4' 1 c4') = w5 at *
  refine (next_any _ _ _ _ (V4.out.own.st (by omega) (by omega))).mono ?_
  rw [show next [⟨false, false, 1⟩] [⟨5, 0, 0, false, false⟩] = 1 from rfl]
  rintro e w6 ⟨rfl, hb⟩
  have V6 := Lib.hid (V4.out.call hb)
  obtain ⟨k1, k2, k3, k4⟩ := V6.out.cells
  clear V4 hb l1 l2 l3 l4
  dsimp only
  go_wp2_with fail
  refine (thunk_any _ _ _ _ (V6.out.own.st (by omega) (by omega)) (by simp) (by intro m hm; simp at hm; subst hm; decide)).mono ?_
  intro e w7 hg
  obtain ⟨A7, c7, A7', c7', rfl, ho, hb⟩ := (hg.as (ms' := [⟨false, true, 0⟩, ⟨false, false, 0⟩]) (al' := [⟨5, 0, 2, false, false⟩]) rfl rfl).take (n := 2) (k := 1) rfl rfl
  have V7 := Lib.hid (V6.out.call hb)
  have H7 := Lib.hid ho
  have hb7 := fresh_call V6.out.below hb
  clear hg ho hb V6
  dsimp only [id]
  go_wp2_with fail
  refine (recover_yes _ _ _ _ _ (H7.out.st (by omega) (by omega)) rfl).mono ?_
  intro e w8 hg
  obtain ⟨A8, c8, A8', c8', rfl, ho, hb⟩ := (hg.as (ms' := [⟨false, true, 0⟩, ⟨false, false, 0⟩]) (al' := [⟨5, 0, 2, false, true⟩]) rfl rfl).take (n := 2) (k := 1) rfl rfl
  have V8 := Lib.hid (Var.start (fresh_call hb7 hb) ho hb7.size)
  obtain ⟨k1, k2, k3, k4⟩ := V8.out.cells
  obtain ⟨g, rfl, d0, d1, d2, d3, d4⟩ := V8.out.headA
  simp only [List.length_nil, Nat.zero_mul, Nat.zero_add] at d2
  have hw := Lib.hid V8.out.below
  clear hg ho hb V8 d0 d1 d3 d4
  simp only [recF]
  go_wp2_with fail
  go_ret
  exact ⟨rfl, hw.out⟩
end Go.Proofs.Ytjlbmelpoaffpaa.Unw
