/- Package unwind: the contracts of Defer and Recover. (Printed by a program of mine.) -/
import Derived.Test.YtjlbmelpoaffpaaUnw5
import Derived.RegionTactic
import Derived.ChangeAlike
namespace Go.Proofs.Ytjlbmelpoaffpaa.Unw
open Go.RowKit
set_option linter.unusedSimpArgs false
set_option linter.unusedVariables false

theorem Inner.call {w w' w2 : World} {ms : List Mk} {al : List Al} {A : Option Addr} {c : Nat} {A' : Option Addr} {c' : Nat} (h : Inner w w' ms al A c A' c') (hb : Below w'.heap.size w' w2) : Inner w w2 ms al A c A' c' :=
  ⟨h.box.call hb, h.res.call hb, ⟨own_below h.own.1 hb, own_below h.own.2 hb⟩, fresh_call h.below hb⟩
theorem Inner.alloc {w w' : World} {ms : List Mk} {al : List Al} {A : Option Addr} {c : Nat} {A' : Option Addr} {c' : Nat} (h : Inner w w' ms al A c A' c') (o : Obj) : Inner w (w'.alloc o) ms al A c A' c' :=
  h.call ((Below.refl _ _).alloc (Nat.le_refl _) o)
theorem Inner.drew {w w' : World} {ms : List Mk} {al : List Al} {A : Option Addr} {c : Nat} {A' : Option Addr} {c' : Nat} (h : Inner w w' ms al A c A' c') : Inner w w'.drew ms al A c A' c' :=
  h.call ((Below.refl _ _).drew)
theorem Inner.st {w w' : World} {ms : List Mk} {al : List Al} {A : Option Addr} {c : Nat} {A' : Option Addr} {c' : Nat} (h : Inner w w' ms al A c A' c') (hm : ms.length ≤ 1000) (ha : al.length ≤ 1000) : St w' (.agg #[.slice A ms.length c, .slice A' al.length c']) ms al :=
  St.of_owned h.own hm ha

/-- Thunks are counted from 0 to 16. -/
def okT (ms : List Mk) : Prop := ∀ m ∈ ms, 0 ≤ m.th ∧ m.th ≤ 16

/-- Behind Defer: the frames, and whether there was room. -/
def deferB : List Mk → Bool
  | [] => false
  | m :: _ => decide (m.th < 16)
def deferM : List Mk → List Mk
  | [] => []
  | m :: r => if m.th < 16 then { m with th := m.th + 1 } :: r else m :: r

set_option maxHeartbeats 1000000 in
theorem defer_any (w : World) (v : Value) (ms : List Mk) (al : List Al) (h : St w v ms al) (ht : okT ms) :
    Calls Try.prog 11 #[v] w (Gives (fun v => .tuple #[v, .bool (deferB ms)]) (deferM ms) al w) := by
  have HS := Lib.hid h
  obtain ⟨A, c, A', c', rfl, _, _, hml, hal⟩ := h
  rcases ms with _ | ⟨m, r⟩
  · rw [show deferB [] = false from rfl, show deferM [] = [] from rfl]
    go_enter Try.func11, Try.ntmps11
    go_wp2_with fail
    refine (own_any _ _ [] al (HS.out.below (fresh_alloc (fresh_alloc (Below.refl _ _) _) _))).mono ?_
    intro e w1 hg
    obtain ⟨A3, c3, A4, c4, rfl, k1, k2, k3, k4, hin⟩ := inner_own hg
    simp only [List.length_nil] at hin k1
    have HIN := Lib.hid hin
    clear hg hin
    have hlt := HIN.out.lt
    dsimp only
    obtain ⟨l1, l2, l3, l4, l5, l6, l7, l8⟩ := HIN.out.boxCells
    go_wp2_with fail
    generalize ((w1.setCell ⟨w.heap.size, 0, none⟩ (.slice A3 0 c3)).setCell ⟨w.heap.size, 1, none⟩ (.slice A4 al.length c4)) = w2 at *
    refine (top_any _ _ [] al (HIN.out.st (Nat.zero_le _) hal)).mono ?_
    rintro e w3 ⟨rfl, hb⟩
    have HI3 := Lib.hid ((HIN.out.call hb).alloc (.cells #[.bool false, .bool false, .int .i64 0] 38))
    obtain ⟨n1, n2, n3, n4, n5, n6, n7, n8⟩ := HI3.out.boxCells
    obtain ⟨p1, p2, p3, p4, p5, p6, p7, p8⟩ := (HIN.out.call hb).boxCells
    have hlt3 := (HIN.out.call hb).box.lt
    simp only [List.length_nil] at n1 p1
    clear hb l1 l2 l3 l4 l5 l6 l7 l8
    simp only [topV]
    go_wp2_with fail
    exact bodyPost_ret (v := .tuple #[.agg #[.slice A3 0 c3, .slice A4 al.length c4], .bool false]) (by simp [results, Try.results11, go_sem, n5, n6, p5, p6]) rfl (HI3.out.gives (fun v => .tuple #[v, .bool false]))
  · have hth := ht m List.mem_cons_self
    have hth1 := hth.1
    have hth2 := hth.2
    clear hth ht
    rcases m with ⟨lv, df, th⟩
    dsimp only at hth1 hth2
    simp only [deferB, deferM]
    simp only [List.length_cons] at hml
    by_cases h16 : th < 16
    · rw [if_pos h16, show decide (th < 16) = true from decide_eq_true h16]
      have hd : decide (16 ≤ th) = false := by simp; omega
      go_enter Try.func11, Try.ntmps11
      go_wp2_with fail
      refine (own_any _ _ (⟨lv, df, th⟩ :: r) al (HS.out.below (fresh_alloc (fresh_alloc (Below.refl _ _) _) _))).mono ?_
      intro e w1 hg
      obtain ⟨A3, c3, A4, c4, rfl, k1, k2, k3, k4, hin⟩ := inner_own hg
      simp only [List.length_cons] at hin k1
      have HIN := Lib.hid hin
      clear hg hin
      have hlt := HIN.out.lt
      dsimp only
      obtain ⟨l1, l2, l3, l4, l5, l6, l7, l8⟩ := HIN.out.boxCells
      go_wp2_with fail
      generalize ((w1.setCell ⟨w.heap.size, 0, none⟩ (.slice A3 (r.length + 1) c3)).setCell ⟨w.heap.size, 1, none⟩ (.slice A4 al.length c4)) = w2 at *
      refine (top_any _ _ (⟨lv, df, th⟩ :: r) al (HIN.out.st hml hal)).mono ?_
      rintro e w3 ⟨rfl, hb⟩
      have HI3 := Lib.hid ((HIN.out.call hb).alloc (.cells #[.bool lv, .bool df, .int .i64 th] 38))
      obtain ⟨n1, n2, n3, n4, n5, n6, n7, n8⟩ := HI3.out.boxCells
      obtain ⟨p1, p2, p3, p4, p5, p6, p7, p8⟩ := (HIN.out.call hb).boxCells
      have hlt3 := (HIN.out.call hb).box.lt
      obtain ⟨g, rfl, hg, c0, c1, c2, hf⟩ := HI3.out.headM
      have f2 := hf (r.length * 3 + 2)
      simp only [List.length_cons] at n1 p1
      clear hb l1 l2 l3 l4 l5 l6 l7 l8 hf
      have HI4 := Lib.hid (Inner.setM HI3.out (r.length * 3 + 2) (.int .i64 (th + 1)) (ms' := ⟨lv, df, th + 1⟩ :: r) rfl (set_th _ r (th + 1)))
      obtain ⟨q1, q2, q3, q4, q5, q6, q7, q8⟩ := HI4.out.boxCells
      simp only [List.length_cons] at q1
      simp only [topV]
      go_wp2_with fail
      exact bodyPost_ret (v := .tuple #[.agg #[.slice (some ⟨g, 0, none⟩) (r.length + 1) c3, .slice A4 al.length c4], .bool true]) (by simp [results, Try.results11, go_sem, n5, n6, p5, p6, q5, q6]) rfl (HI4.out.gives (fun v => .tuple #[v, .bool true]))
    · rw [if_neg h16, show decide (th < 16) = false from decide_eq_false h16]
      have hd : decide (16 ≤ th) = true := by simp; omega
      go_enter Try.func11, Try.ntmps11
      go_wp2_with fail
      refine (own_any _ _ (⟨lv, df, th⟩ :: r) al (HS.out.below (fresh_alloc (fresh_alloc (Below.refl _ _) _) _))).mono ?_
      intro e w1 hg
      obtain ⟨A3, c3, A4, c4, rfl, k1, k2, k3, k4, hin⟩ := inner_own hg
      simp only [List.length_cons] at hin k1
      have HIN := Lib.hid hin
      clear hg hin
      have hlt := HIN.out.lt
      dsimp only
      obtain ⟨l1, l2, l3, l4, l5, l6, l7, l8⟩ := HIN.out.boxCells
      go_wp2_with fail
      generalize ((w1.setCell ⟨w.heap.size, 0, none⟩ (.slice A3 (r.length + 1) c3)).setCell ⟨w.heap.size, 1, none⟩ (.slice A4 al.length c4)) = w2 at *
      refine (top_any _ _ (⟨lv, df, th⟩ :: r) al (HIN.out.st hml hal)).mono ?_
      rintro e w3 ⟨rfl, hb⟩
      have HI3 := Lib.hid ((HIN.out.call hb).alloc (.cells #[.bool lv, .bool df, .int .i64 th] 38))
      obtain ⟨n1, n2, n3, n4, n5, n6, n7, n8⟩ := HI3.out.boxCells
      obtain ⟨p1, p2, p3, p4, p5, p6, p7, p8⟩ := (HIN.out.call hb).boxCells
      have hlt3 := (HIN.out.call hb).box.lt
      simp only [List.length_cons] at n1 p1
      clear hb l1 l2 l3 l4 l5 l6 l7 l8
      simp only [topV]
      go_wp2_with fail
      exact bodyPost_ret (v := .tuple #[.agg #[.slice A3 (r.length + 1) c3, .slice A4 al.length c4], .bool false]) (by simp [results, Try.results11, go_sem, n5, n6, p5, p6]) rfl (HI3.out.gives (fun v => .tuple #[v, .bool false]))
end Go.Proofs.Ytjlbmelpoaffpaa.Unw
