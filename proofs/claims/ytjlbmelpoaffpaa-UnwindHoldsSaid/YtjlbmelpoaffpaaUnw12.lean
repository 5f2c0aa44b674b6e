/- Package unwind: the contract of Pop. (Printed by a program of mine.) -/
import Derived.Test.YtjlbmelpoaffpaaUnw11
namespace Go.Proofs.Ytjlbmelpoaffpaa.Unw
open Go.RowKit
set_option linter.unusedSimpArgs false
set_option linter.unusedVariables false

def popM (ms : List Mk) (al : List Al) : List Mk :=
  match ms with
  | [] => []
  | _ :: r => if unw al then r else endM ((r.length : Int) + 1) r al
def popA (ms : List Mk) (al : List Al) : List Al :=
  match ms with
  | [] => al
  | _ :: r => if unw al then abA ((r.length : Int) + 1) al else endA ((r.length : Int) + 1) al

theorem Inner.cutM {w w' : World} {m : Mk} {ms : List Mk} {al : List Al} {A : Option Addr} {c : Nat} {A' : Option Addr} {c' : Nat} (h : Inner w w' (m :: ms) al A c A' c') : Inner w (w'.setCell ⟨w.heap.size, 0, none⟩ (.slice A ms.length c)) ms al A c A' c' := by
  have ho : w'.ownsRow (w.heap.size + 2) 38 3 (.slice A ms.length c) ms.length (mc ms) := own_cut h.own.1 (by simp) (by rw [← mc_length]; simp [mc])
  refine ⟨h.box.set 0 _, ?_, ⟨?_, ?_⟩, h.below.setCell (Nat.le_refl _) _⟩
  · exact h.res.other (a := ⟨w.heap.size, 0, none⟩) (by show w.heap.size + 1 ≠ w.heap.size; omega) _
  · exact own_set ho h.box (by decide)
  · exact own_set h.own.2 h.box (by decide)
theorem Inner.capM {w w' : World} {ms : List Mk} {al : List Al} {A : Option Addr} {c : Nat} {A' : Option Addr} {c' : Nat} (h : Inner w w' ms al A c A' c') : ms.length ≤ c ∧ c ≤ maxLen := by
  rcases h.own.1.2 with ⟨he, h0⟩ | ⟨g, cap, cur, he, hb, hh, hn, hm, hs, ht⟩
  · exact ⟨by omega, by injection he with _ _ h5; subst h5; unfold maxLen; omega⟩
  · injection he with h3 h4 h5
    subst h5
    exact ⟨hn, hm⟩
/-- What was handed on is handed back, and stored. -/
theorem Inner.handed {w w' w2 : World} {ms ms' : List Mk} {al al' : List Al} {A : Option Addr} {c : Nat} {A' : Option Addr} {c' : Nat} {e : Ending} (h : Inner w w' ms al A c A' c') (hg : GivesO (w.heap.size + 2) ms' al' w' e w2) :
    ∃ A2 c2 A3 c3, e = .returned (.agg #[.slice A2 ms'.length c2, .slice A3 al'.length c3]) ∧ w2.cell? ⟨w.heap.size + 1, 0, none⟩ = some (.slice none 0 0) ∧ w2.cell? ⟨w.heap.size + 1, 1, none⟩ = some (.slice none 0 0) ∧
      w2.frozen? ⟨w.heap.size + 1, 0, none⟩ = false ∧ w2.frozen? ⟨w.heap.size + 1, 1, none⟩ = false ∧
      Gives id ms' al' w (.returned (.agg #[.slice A2 ms'.length c2, .slice A3 al'.length c3])) ((w2.setCell ⟨w.heap.size + 1, 0, none⟩ (.slice A2 ms'.length c2)).setCell ⟨w.heap.size + 1, 1, none⟩ (.slice A3 al'.length c3)) := by
  obtain ⟨A2, c2, A3, c3, rfl, ho, hb⟩ := hg
  have hr : Blk w2 (w.heap.size + 1) #[.slice none 0 0, .slice none 0 0] 26 := h.res.below hb (by omega)
  obtain ⟨k1, k2, k3, k4⟩ := hr.two
  have B3 := hr.set 0 (.slice A2 ms'.length c2)
  have hw : Below w.heap.size w w2 := h.below.trans (hb.mono (by omega))
  refine ⟨A2, c2, A3, c3, rfl, k1, k2, k3, k4, A2, c2, A3, c3, rfl, ⟨?_, ?_⟩, (hw.setCell (Nat.le_succ _) _).setCell (Nat.le_succ _) _⟩
  · exact own_mono (own_set (own_set ho.1 hr (by decide)) B3 (by decide)) (by omega)
  · exact own_mono (own_set (own_set ho.2 hr (by decide)) B3 (by decide)) (by omega)

set_option maxHeartbeats 2000000 in
theorem pop_nil (w : World) (v : Value) (al : List Al) (h : St w v [] al) :
    Calls Try.prog 15 #[v] w (Gives id [] al w) := by
  have HS := Lib.hid h
  obtain ⟨A, c, A', c', rfl, _, _, hml, hal⟩ := h
  go_enter Try.func15, Try.ntmps15
  go_wp2_with fail
  refine (own_any _ _ [] al (HS.out.below (fresh_alloc (fresh_alloc (Below.refl _ _) _) _))).mono ?_
  intro e w1 hg
  obtain ⟨A3, c3, A4, c4, rfl, k1, k2, k3, k4, hin⟩ := inner_own hg
  simp only [List.length_nil] at hin k1 k2
  have HIN := Lib.hid hin
  clear hg hin
  have hlt := HIN.out.lt
  dsimp only
  obtain ⟨l1, l2, l3, l4, l5, l6, l7, l8⟩ := HIN.out.boxCells
  go_wp2_with fail
  exact bodyPost_ret (v := .agg #[.slice A3 0 c3, .slice A4 al.length c4]) (by simp [results, Try.results15, go_sem, l5, l6]) rfl (HIN.out.gives id)

set_option maxHeartbeats 2000000 in
theorem pop_ended (w : World) (v : Value) (m : Mk) (r : List Mk) (al : List Al) (h : St w v (m :: r) al) (hu : unw al = false) :
    Calls Try.prog 15 #[v] w (Gives id (endM ((r.length : Int) + 1) r al) (endA ((r.length : Int) + 1) al) w) := by
  have HS := Lib.hid h
  have HU := Lib.hid hu
  obtain ⟨A, c, A', c', rfl, _, _, hml, hal⟩ := h
  clear hu
  simp only [List.length_cons] at hml
  generalize hmo : endM ((r.length : Int) + 1) r al = mo at *
  generalize hao : endA ((r.length : Int) + 1) al = ao at *
  have HMO := Lib.hid hmo
  have HAO := Lib.hid hao
  clear hmo hao
  go_enter Try.func15, Try.ntmps15
  go_wp2_with fail
  refine (own_any _ _ (m :: r) al (HS.out.below (fresh_alloc (fresh_alloc (Below.refl _ _) _) _))).mono ?_
  intro e w1 hg
  obtain ⟨A3, c3, A4, c4, rfl, k1, k2, k3, k4, hin⟩ := inner_own hg
  simp only [List.length_nil, List.length_cons] at hin k1 k2
  have HIN := Lib.hid hin
  clear hg hin
  have hlt := HIN.out.lt
  dsimp only
  obtain ⟨l1, l2, l3, l4, l5, l6, l7, l8⟩ := HIN.out.boxCells
  simp only [List.length_nil, List.length_cons] at l1 l2
  have hd : (((r.length : Int) + 1) == 0) = false := by simp; omega
  go_wp2_with fail
  generalize (w1.setCell ⟨w.heap.size, 0, none⟩ (.slice A3 (r.length + 1) c3)).setCell ⟨w.heap.size, 1, none⟩ (.slice A4 al.length c4) = w2 at *
  refine (unwinds_any _ _ (m :: r) al (HIN.out.st (by simp; omega) hal)).mono ?_
  rintro e w3 ⟨rfl, hb⟩
  have HI3 := Lib.hid (HIN.out.call hb)
  clear hb l1 l2 l3 l4 l5 l6 l7 l8
  rw [HU.out]
  dsimp only
  obtain ⟨l1, l2, l3, l4, l5, l6, l7, l8⟩ := HI3.out.boxCells
  simp only [List.length_nil, List.length_cons] at l1 l2
  have hcap : (r.length : Int) ≤ (c3 : Int) := by have := HI3.out.capM.1; rw [List.length_cons] at this; omega
  have hcp0 : (0 : Int) ≤ (r.length : Int) := by omega
  have HI4 := Lib.hid HI3.out.cutM
  obtain ⟨n1, n2, n3, n4, n5, n6, n7, n8⟩ := HI4.out.boxCells
  try simp only [List.length_nil, List.length_cons] at n1 n2
  have hz4 := HI4.out.res.lt
  have hz5 : w.heap.size + 2 ≤ w3.heap.size := by have := HI3.out.res.lt; omega
  have HZ4 := Lib.hid hz4
  clear hz4
  go_wp2_with fail
  generalize w3.setCell ⟨w.heap.size, 0, none⟩ (.slice A3 r.length c3) = w4 at *
  have hen := ended_any w4 (w.heap.size + 2) A3 c3 A4 c4 r al HI4.out.own HZ4.out (by omega) hal
  rw [HMO.out, HAO.out] at hen
  refine hen.mono ?_
  intro e w5 hg
  obtain ⟨A5, c5, A6, c6, rfl, p1, p2, p3, p4, hG⟩ := HI4.out.handed hg
  have HG := Lib.hid hG
  clear hg hG
  dsimp only
  go_wp2_with fail
  exact bodyPost_ret (v := .agg #[.slice A5 (mo).length c5, .slice A6 (ao).length c6]) (by simp only [results, Try.results15, go_sem, p1, p2]; simp [go_sem, p1, p2]) rfl HG.out

set_option maxHeartbeats 2000000 in
theorem pop_aborted (w : World) (v : Value) (m : Mk) (r : List Mk) (a : Al) (q : List Al) (h : St w v (m :: r) (a :: q)) (hu : unw (a :: q) = true) :
    Calls Try.prog 15 #[v] w (Gives id r (abA ((r.length : Int) + 1) (a :: q)) w) := by
  have HS := Lib.hid h
  have HU := Lib.hid hu
  obtain ⟨A, c, A', c', rfl, _, _, hml, hal⟩ := h
  clear hu
  simp only [List.length_cons] at hml
  generalize hao : abA ((r.length : Int) + 1) (a :: q) = ao at *
  have HAO := Lib.hid hao
  clear hao
  go_enter Try.func15, Try.ntmps15
  go_wp2_with fail
  refine (own_any _ _ (m :: r) (a :: q) (HS.out.below (fresh_alloc (fresh_alloc (Below.refl _ _) _) _))).mono ?_
  intro e w1 hg
  obtain ⟨A3, c3, A4, c4, rfl, k1, k2, k3, k4, hin⟩ := inner_own hg
  simp only [List.length_nil, List.length_cons] at hin k1 k2
  have HIN := Lib.hid hin
  clear hg hin
  have hlt := HIN.out.lt
  dsimp only
  obtain ⟨l1, l2, l3, l4, l5, l6, l7, l8⟩ := HIN.out.boxCells
  simp only [List.length_nil, List.length_cons] at l1 l2
  have hd : (((r.length : Int) + 1) == 0) = false := by simp; omega
  go_wp2_with fail
  generalize (w1.setCell ⟨w.heap.size, 0, none⟩ (.slice A3 (r.length + 1) c3)).setCell ⟨w.heap.size, 1, none⟩ (.slice A4 (q.length + 1) c4) = w2 at *
  refine (unwinds_any _ _ (m :: r) (a :: q) (HIN.out.st (by simp; omega) hal)).mono ?_
  rintro e w3 ⟨rfl, hb⟩
  have HI3 := Lib.hid (HIN.out.call hb)
  clear hb l1 l2 l3 l4 l5 l6 l7 l8
  rw [HU.out]
  dsimp only
  obtain ⟨l1, l2, l3, l4, l5, l6, l7, l8⟩ := HI3.out.boxCells
  simp only [List.length_nil, List.length_cons] at l1 l2
  have hcap : (r.length : Int) ≤ (c3 : Int) := by have := HI3.out.capM.1; rw [List.length_cons] at this; omega
  have hcp0 : (0 : Int) ≤ (r.length : Int) := by omega
  have HI4 := Lib.hid HI3.out.cutM
  obtain ⟨n1, n2, n3, n4, n5, n6, n7, n8⟩ := HI4.out.boxCells
  try simp only [List.length_nil, List.length_cons] at n1 n2
  have hz4 := HI4.out.res.lt
  have hz5 : w.heap.size + 2 ≤ w3.heap.size := by have := HI3.out.res.lt; omega
  have HZ4 := Lib.hid hz4
  clear hz4
  go_wp2_with fail
  generalize w3.setCell ⟨w.heap.size, 0, none⟩ (.slice A3 r.length c3) = w4 at *
  have hen := aborted_any w4 (w.heap.size + 2) A3 c3 A4 c4 r a q q.length ((r.length : Int) + 1) HI4.out.own HZ4.out (by omega) (by simp only [List.length_cons] at hal; omega) rfl
  rw [HAO.out] at hen
  refine hen.mono ?_
  intro e w5 hg
  obtain ⟨A5, c5, A6, c6, rfl, p1, p2, p3, p4, hG⟩ := HI4.out.handed hg
  have HG := Lib.hid hG
  clear hg hG
  dsimp only
  go_wp2_with fail
  exact bodyPost_ret (v := .agg #[.slice A5 (r).length c5, .slice A6 (ao).length c6]) (by simp only [results, Try.results15, go_sem, p1, p2]; simp [go_sem, p1, p2]) rfl HG.out

theorem pop_any (w : World) (v : Value) (ms : List Mk) (al : List Al) (h : St w v ms al) :
    Calls Try.prog 15 #[v] w (Gives id (popM ms al) (popA ms al) w) := by
  rcases ms with _ | ⟨m, r⟩
  · exact pop_nil w v al h
  · by_cases hu : unw al = true
    · simp only [popM, popA, if_pos hu]
      rcases al with _ | ⟨a, q⟩
      · simp [unw] at hu
      · exact pop_aborted w v m r a q h hu
    · simp only [popM, popA, if_neg hu]
      exact pop_ended w v m r al h (by simpa using hu)
end Go.Proofs.Ytjlbmelpoaffpaa.Unw
