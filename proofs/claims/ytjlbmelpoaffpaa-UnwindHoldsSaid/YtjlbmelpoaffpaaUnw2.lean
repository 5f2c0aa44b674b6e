/- Package unwind: the contracts of top, last, unwinds, Next. -/
import Derived.Test.YtjlbmelpoaffpaaUnw
namespace Go.Proofs.Ytjlbmelpoaffpaa.Unw
open Go.RowKit
set_option linter.unusedSimpArgs false
set_option linter.unusedVariables false

theorem mc_at (m : Mk) (r : List Mk) : (mc (m :: r))[r.length * 3]? = some (.bool m.lv) ∧ (mc (m :: r))[r.length * 3 + 1]? = some (.bool m.df) ∧ (mc (m :: r))[r.length * 3 + 2]? = some (.int .i64 m.th) := by
  have h := mc_length r
  refine ⟨?_, ?_, ?_⟩ <;> · rw [mc, List.getElem?_append_right (by omega), h]; simp [Mk.cells]
theorem ac_at (m : Al) (r : List Al) : (ac (m :: r))[r.length * 5]? = some (.int .i64 m.code) ∧ (ac (m :: r))[r.length * 5 + 1]? = some (.int .i64 m.ptr) ∧ (ac (m :: r))[r.length * 5 + 2]? = some (.int .i64 m.run) ∧
    (ac (m :: r))[r.length * 5 + 3]? = some (.bool m.ex) ∧ (ac (m :: r))[r.length * 5 + 4]? = some (.bool m.rc) := by
  have h := ac_length r
  refine ⟨?_, ?_, ?_, ?_, ?_⟩ <;> · rw [ac, List.getElem?_append_right (by omega), h]; simp [Al.cells]

def topV : List Mk → Value
  | [] => .tuple #[.agg #[.bool false, .bool false, .int .i64 0], .bool false]
  | m :: _ => .tuple #[.agg #[.bool m.lv, .bool m.df, .int .i64 m.th], .bool true]
def lastV : List Al → Value
  | [] => .tuple #[.agg #[.int .i64 0, .int .i64 0, .int .i64 0, .bool false, .bool false], .bool false]
  | m :: _ => .tuple #[.agg #[.int .i64 m.code, .int .i64 m.ptr, .int .i64 m.run, .bool m.ex, .bool m.rc], .bool true]

/-- The cells of a row's last element, where they are. -/
theorem lastM {w : World} {B c n : Nat} {A : Option Addr} {m : Mk} {r : List Mk} (h : Reads w B 3 A n c (mc (m :: r))) : ∃ b off, A = some ⟨b, off, none⟩ ∧ b < B ∧
    w.cell? ⟨b, off + r.length * 3, none⟩ = some (.bool m.lv) ∧ w.cell? ⟨b, off + r.length * 3 + 1, none⟩ = some (.bool m.df) ∧ w.cell? ⟨b, off + r.length * 3 + 2, none⟩ = some (.int .i64 m.th) := by
  obtain ⟨e0, e1, e2⟩ := mc_at m r
  have hn : 0 < n := by have := h.2.2.1; rw [mc_length, List.length_cons] at this; omega
  obtain ⟨b, off, hA, hb, hc⟩ := h.2.2.2 hn
  exact ⟨b, off, hA, hb, hc _ _ e0, hc _ _ e1, hc _ _ e2⟩
theorem lastA {w : World} {B c n : Nat} {A : Option Addr} {m : Al} {r : List Al} (h : Reads w B 5 A n c (ac (m :: r))) : ∃ b off, A = some ⟨b, off, none⟩ ∧ b < B ∧
    w.cell? ⟨b, off + r.length * 5, none⟩ = some (.int .i64 m.code) ∧ w.cell? ⟨b, off + r.length * 5 + 1, none⟩ = some (.int .i64 m.ptr) ∧ w.cell? ⟨b, off + r.length * 5 + 2, none⟩ = some (.int .i64 m.run) ∧
    w.cell? ⟨b, off + r.length * 5 + 3, none⟩ = some (.bool m.ex) ∧ w.cell? ⟨b, off + r.length * 5 + 4, none⟩ = some (.bool m.rc) := by
  obtain ⟨e0, e1, e2, e3, e4⟩ := ac_at m r
  have hn : 0 < n := by have := h.2.2.1; rw [ac_length, List.length_cons] at this; omega
  obtain ⟨b, off, hA, hb, hc⟩ := h.2.2.2 hn
  exact ⟨b, off, hA, hb, hc _ _ e0, hc _ _ e1, hc _ _ e2, hc _ _ e3, hc _ _ e4⟩
theorem at_unique : True := trivial

set_option maxHeartbeats 1000000 in
theorem top_any (w : World) (v : Value) (ms : List Mk) (al : List Al) (h : St w v ms al) :
    Calls Try.prog 20 #[v] w fun e w' => e = .returned (topV ms) ∧ Below w.heap.size w w' := by
  obtain ⟨A, c, A', c', rfl, h1, h2, h3, h4⟩ := h
  clear h2
  rcases ms with _ | ⟨m, r⟩
  · go_enter Try.func20, Try.ntmps20
    go_wp2_with fail
    exact bodyPost_ret (v := topV []) (by simp [results, topV, Try.results20, go_sem]) rfl ⟨rfl, by exact ((((Below.refl _ _).alloc (Nat.le_refl _) _).alloc (by simp) _))⟩
  · obtain ⟨b, off, rfl, hb, c0, c1, c2⟩ := lastM h1
    clear h1
    rw [List.length_cons] at *
    generalize r.length = n at *
    have hd : (((n : Int) + 1) == 0) = false := by simp; omega
    go_enter Try.func20, Try.ntmps20
    go_wp2_with fail
    exact bodyPost_ret (v := topV (m :: r)) (by simp [results, topV, Try.results20, go_sem]) rfl ⟨rfl, by exact ((((Below.refl _ _).alloc (Nat.le_refl _) _).alloc (by simp) _))⟩
set_option maxHeartbeats 1000000 in
theorem last_any (w : World) (v : Value) (ms : List Mk) (al : List Al) (h : St w v ms al) :
    Calls Try.prog 22 #[v] w fun e w' => e = .returned (lastV al) ∧ Below w.heap.size w w' := by
  obtain ⟨A, c, A', c', rfl, h1, h2, h3, h4⟩ := h
  clear h1
  rcases al with _ | ⟨m, r⟩
  · go_enter Try.func22, Try.ntmps22
    go_wp2_with fail
    exact bodyPost_ret (v := lastV []) (by simp [results, lastV, Try.results22, go_sem]) rfl ⟨rfl, by exact ((((Below.refl _ _).alloc (Nat.le_refl _) _).alloc (by simp) _))⟩
  · obtain ⟨b, off, rfl, hb, c0, c1, c2, c3, c4⟩ := lastA h2
    clear h2
    rw [List.length_cons] at *
    generalize r.length = n at *
    have hd : (((n : Int) + 1) == 0) = false := by simp; omega
    go_enter Try.func22, Try.ntmps22
    go_wp2_with fail
    exact bodyPost_ret (v := lastV (m :: r)) (by simp [results, lastV, Try.results22, go_sem]) rfl ⟨rfl, by exact ((((Below.refl _ _).alloc (Nat.le_refl _) _).alloc (by simp) _))⟩
theorem St.below {w w' : World} {v : Value} {ms : List Mk} {al : List Al} (h : St w v ms al) (hb : Below w.heap.size w w') : St w' v ms al := by
  obtain ⟨A, c, A', c', e, h1, h2, h3, h4⟩ := h
  exact ⟨A, c, A', c', e, (h1.below hb).more hb.size, (h2.below hb).more hb.size, h3, h4⟩

/-- Does the last alarm unwind? -/
def unw : List Al → Bool
  | [] => false
  | a :: _ => a.run == 0
/-- What is done next. -/
def next : List Mk → List Al → Int
  | [], [] => 3
  | [], a :: _ => if a.ex then 3 else 4
  | m :: _, al => if !unw al && !m.lv then 0 else if 0 < m.th then 1 else 2

set_option maxHeartbeats 1000000 in
theorem unwinds_any (w : World) (v : Value) (ms : List Mk) (al : List Al) (h : St w v ms al) :
    Calls Try.prog 21 #[v] w fun e w' => e = .returned (.bool (unw al)) ∧ Below w.heap.size w w' := by
  have hw1 := fun o => fresh_alloc (Below.refl w.heap.size w) o
  have HS := Lib.hid h
  have HW := Lib.hid hw1
  obtain ⟨A, c, A', c', rfl, _, _, _, _⟩ := h
  clear hw1
  rcases al with _ | ⟨a, r⟩
  · go_enter Try.func21, Try.ntmps21
    go_wp2_with fail
    refine (last_any _ _ _ _ (HS.out.below (HW.out _))).mono ?_
    rintro e w1 ⟨rfl, hb⟩
    have hw := below_call (HW.out _) (by simp) hb
    clear hb
    simp only [lastV]
    go_wp2_with fail
    go_ret
    exact ⟨rfl, fresh_alloc hw _⟩
  · have hl : (a :: r).length = r.length + 1 := rfl
    go_enter Try.func21, Try.ntmps21
    go_wp2_with fail
    refine (last_any _ _ _ _ (HS.out.below (HW.out _))).mono ?_
    rintro e w1 ⟨rfl, hb⟩
    have hw := below_call (HW.out _) (by simp) hb
    clear hb
    simp only [lastV]
    go_wp2_with fail
    go_ret
    exact ⟨rfl, fresh_alloc hw _⟩
end Go.Proofs.Ytjlbmelpoaffpaa.Unw
