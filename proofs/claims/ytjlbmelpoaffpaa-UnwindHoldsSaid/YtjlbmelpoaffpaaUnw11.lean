/- Package unwind: the contract of aborted. (Printed by a program of mine.) -/
import Derived.Test.YtjlbmelpoaffpaaUnw10
namespace Go.Proofs.Ytjlbmelpoaffpaa.Unw
open Go.RowKit
set_option linter.unusedSimpArgs false
set_option linter.unusedVariables false

/-- Behind the unwinding of the frame at depth n: of the alarms below the last one. -/
def abR (n : Int) : List Al → List Al
  | [] => []
  | b :: r => if b.run = n then (if b.ex then { b with run := 0 } :: r else r) else b :: abR n r
def abA (n : Int) : List Al → List Al
  | [] => []
  | a :: r => a :: abR n r
theorem abR_pre {n : Int} {p : List Al} (hp : ∀ x ∈ p, x.run ≠ n) (s : List Al) : abR n (p ++ s) = p ++ abR n s := by
  induction p with
  | nil => rfl
  | cons x p ih =>
    simp only [List.cons_append, abR]
    rw [if_neg (hp x List.mem_cons_self), ih fun y hy => hp y (List.mem_cons_of_mem _ hy)]
theorem set_mid (p : List Al) (b : Al) (s : List Al) : (ac (p ++ b :: s)).set (s.length * 5 + 2) (.int .i64 0) = ac (p ++ { b with run := 0 } :: s) := by
  rw [ac_append, ac_append, List.set_append, if_pos (by rw [ac_length, List.length_cons]; omega), set_run]
theorem InnerB.midA {B : Nat} {w w' : World} {ms : List Mk} {al : List Al} {A : Option Addr} {c : Nat} {c' g : Nat} (h : InnerB B w w' ms al A c (some ⟨g, 0, none⟩) c') {p : List Al} {b : Al} {s : List Al} (hal : al = p ++ b :: s) :
    w'.cell? ⟨g, s.length * 5 + 2, none⟩ = some (.int .i64 b.run) ∧ w'.cell? ⟨g, s.length * 5 + 3, none⟩ = some (.bool b.ex) ∧ ∀ i, w'.frozen? ⟨g, i, none⟩ = false := by
  subst hal
  have h1 := h.own.2
  obtain ⟨e0, e1, e2, e3, e4⟩ := ac_at b s
  have hl := ac_length (p ++ b :: s)
  have hll : (p ++ b :: s).length = p.length + (s.length + 1) := by simp
  have hl2 := ac_length (b :: s)
  rw [List.length_cons] at hl2
  refine ⟨?_, ?_, fun i => h1.frozenAt i⟩
  · rw [h1.cellAt _ (by rw [hll]; omega), ac_append, List.getElem?_append_left (by omega)]; exact e2
  · rw [h1.cellAt _ (by rw [hll]; omega), ac_append, List.getElem?_append_left (by omega)]; exact e3
/-- An alarm was taken out. -/
theorem InnerB.takenA {B : Nat} {w w' w2 : World} {ms : List Mk} {al : List Al} {A : Option Addr} {c : Nat} {c' g : Nat} (h : InnerB B w w' ms al A c (some ⟨g, 0, none⟩) c') {p : List Al} {b : Al} {s : List Al} (hal : al = p ++ b :: s)
    (ho : w2.ownsRow B 32 5 (.slice (some ⟨g, 0, none⟩) (s.length + p.length) c') (s.length + p.length) (ac (p ++ s))) (hg : w'.grownBy w2 (some g)) :
    w2.cell? ⟨w.heap.size, 1, none⟩ = some (.slice (some ⟨g, 0, none⟩) al.length c') ∧ w2.frozen? ⟨w.heap.size, 1, none⟩ = false ∧ InnerB B w (w2.setCell ⟨w.heap.size, 1, none⟩ (.slice (some ⟨g, 0, none⟩) (s.length + p.length) c')) ms (p ++ s) A c (some ⟨g, 0, none⟩) c' := by
  obtain ⟨n1, n2⟩ := h.neA rfl
  have hb : Blk w2 w.heap.size #[.slice A ms.length c, .slice (some ⟨g, 0, none⟩) al.length c'] 26 := (hg.block _ h.box.lt (by simpa using n1)).trans h.box
  have hr : Blk w2 (w.heap.size + 1) #[.slice none 0 0, .slice none 0 0] 26 := (hg.block _ h.res.lt (by simpa using n2)).trans h.res
  have ho2 := h.own.1.kept hg (by have := own_kinds h.own.2 h.own.1 (by decide); simpa [Value.ownBlock] using this)
  have hge := (h.own.2.lt g rfl).1
  have hl : (p ++ s).length = s.length + p.length := by simp; omega
  refine ⟨hb.cell 1, hb.free 1, ⟨?_, ?_, ⟨?_, ?_⟩, ?_, h.hB⟩⟩
  · rw [hl]; exact hb.set 1 _
  · exact hr.other (a := ⟨w.heap.size, 1, none⟩) (by show w.heap.size + 1 ≠ w.heap.size; omega) _
  · exact own_set ho2 hb (by decide)
  · rw [hl]; exact own_set ho hb (by decide)
  · exact (h.below.grown hg (Nat.le_trans h.hB (by have := h.box.lt; omega)) (fun k hk => by cases hk; exact hge)).setCell h.hB _

set_option maxHeartbeats 2000000 in
theorem aborted_any (w : World) (B : Nat) (A : Option Addr) (c : Nat) (A' : Option Addr) (c' : Nat) (ms : List Mk) (a : Al) (rest : List Al) (N : Nat) (n : Int) (ho : Owned B w ms (a :: rest) A c A' c') (hB : B ≤ w.heap.size) (hl : ms.length ≤ 1000) (hla : N < 1000) (hN : rest.length = N) :
    Calls Try.prog 23 #[.agg #[.slice A ms.length c, .slice A' (N + 1) c'], .int .i64 n] w (GivesO B ms (abA n (a :: rest)) w) := by
  have HI := Lib.hid (InnerB.start ho hB)
  have HN := Lib.hid hN
  clear ho
  rw [List.length_cons, hN] at HI
  clear hN
  rw [show abA n (a :: rest) = a :: abR n rest from rfl]
  go_enter Try.func23, Try.ntmps23
  go_upto_region 1 with (fail)
  generalize (w.alloc (.cells #[.slice A ms.length c, .slice A' (N + 1) c'] 26)).alloc (.cells #[.slice none 0 0, .slice none 0 0] 26) = w1 at *
  obtain ⟨l1, l2, l3, l4, l5, l6, l7, l8⟩ := HI.out.boxCells
  obtain ⟨g, rfl, _, _, _, _, _, _⟩ := HI.out.headA
  obtain ⟨ne1, ne2⟩ := HI.out.neA rfl
  have hgiv := HI.out.gives
  have hcap := HI.out.capA
  rw [List.length_cons, HN.out] at l2 hgiv hcap
  have HG := Lib.hid hgiv
  clear hgiv
  go_wp2_with fail
  go_loop [5] (fun i => ∃ p s : List Al, rest = p ++ s ∧ (∀ x ∈ p, x.run ≠ n) ∧ i = .int .i64 ((s.length : Int) - 1)) (fun i => (intOf i + 1).toNat)
  case atStart => exact ⟨[], rest, rfl, by simp, by rw [HN.out]; first | rfl | (simp; omega) | go_num⟩
  case round =>
    obtain ⟨p, s, hs, hp, rfl⟩ := hrel
    have HP := Lib.hid hp
    have HS := Lib.hid hs
    have hpl : p.length + s.length = N := by rw [← HN.out, hs, List.length_append]
    clear hp hs
    rcases s with _ | ⟨b, s⟩
    · have he : a :: abR n rest = a :: rest := by rw [HS.out, abR_pre HP.out]; rfl
      have HE := Lib.hid he
      clear he
      rw [List.length_nil]
      have hm1 : (((0 : Nat) : Int) - 1) = -1 := rfl
      rw [hm1]
      go_wp2_with fail
      exact bodyPost_ret (v := .agg #[.slice A ms.length c, .slice (some ⟨g, 0, none⟩) (N + 1) c']) (by simp [results, Try.results23, go_sem, l5, l6]) rfl (by rw [HE.out]; exact HG.out)
    · obtain ⟨c2, c3, hf⟩ := HI.out.midA (p := a :: p) (b := b) (s := s) (by rw [HS.out]; rfl)
      have f2 := hf (s.length * 5 + 2)
      clear hf
      rw [List.length_cons] at hpl
      have hix : (((b :: s).length : Nat) : Int) - 1 = (s.length : Int) := by rw [List.length_cons]; omega
      rw [hix]
      clear hix
      have hk0 : (0 : Int) ≤ (s.length : Int) := by omega
      have hk1 : (s.length : Int) < (N : Int) + 1 := by omega
      have hge : decide ((0 : Int) ≤ (s.length : Int)) = true := by simp
      by_cases hr : b.run = n
      · have hd : (b.run != n) = false := by simpa using hr
        have HR := Lib.hid hr
        cases hex : b.ex
        · have he : a :: abR n rest = (a :: p) ++ s := by rw [HS.out, abR_pre HP.out, abR, if_pos HR.out, hex]; rfl
          have HE := Lib.hid he
          have hw : IntKind.i64.wrap ((s.length : Int) + 1) = (s.length : Int) + 1 := IntWalk.i64_in _ (by omega)
          clear hr he
          rw [hex] at c3
          go_wp2_with fail
          refine (delete_any _ B g c' (N + 1) (a :: p) b s (by rw [List.length_cons]; omega) (by simp) (by omega) (by have := HI.out.own.2; rw [List.length_cons, HN.out, HS.out] at this; exact this)).mono ?_
          intro e w2 ht
          obtain ⟨he, ho2, hg2⟩ := ht
          have hM : s.length + (a :: p).length = N := by rw [List.length_cons]; omega
          rw [hM] at he
          subst he
          obtain ⟨j1, j2, hin⟩ := HI.out.takenA (p := a :: p) (b := b) (s := s) (by rw [HS.out]; rfl) ho2 hg2
          rw [List.length_cons, HN.out] at j1
          rw [hM] at hin
          have HI2 := Lib.hid hin
          obtain ⟨n1, n2, n3, n4, n5, n6, n7, n8⟩ := HI2.out.boxCells
          have hgiv := HI2.out.gives
          rw [show ((a :: p) ++ s).length = N by simp; omega] at n2 hgiv
          have HG2 := Lib.hid hgiv
          clear hin ho2 hg2 hgiv hM
          dsimp only
          go_wp2_with fail
          exact bodyPost_ret (v := .agg #[.slice A ms.length c, .slice (some ⟨g, 0, none⟩) N c']) (by simp [results, Try.results23, go_sem, n5, n6]) rfl (by rw [HE.out]; exact HG2.out)
        · have he : a :: abR n rest = (a :: p) ++ { b with run := 0 } :: s := by rw [HS.out, abR_pre HP.out, abR, if_pos HR.out, hex]; rfl
          have HE := Lib.hid he
          have HI2 := Lib.hid (HI.out.setA (s.length * 5 + 2) (.int .i64 0) (al' := (a :: p) ++ { b with run := 0 } :: s) (by rw [HS.out]; simp) (by rw [HS.out]; exact set_mid (a :: p) b s))
          obtain ⟨n1, n2, n3, n4, n5, n6, n7, n8⟩ := HI2.out.boxCells
          have hgiv := HI2.out.gives
          rw [show ((a :: p) ++ { b with run := 0 } :: s).length = N + 1 by simp; omega] at n2 hgiv
          have HG2 := Lib.hid hgiv
          clear hr he hgiv
          rw [hex] at c3
          go_wp2_with fail
          exact bodyPost_ret (v := .agg #[.slice A ms.length c, .slice (some ⟨g, 0, none⟩) (N + 1) c']) (by simp [results, Try.results23, go_sem, n5, n6]) rfl (by rw [HE.out]; exact HG2.out)
      · have hd : (b.run != n) = true := by simpa using hr
        have HR := Lib.hid hr
        clear hr
        go_wp2_with fail
        refine ⟨⟨p ++ [b], s, by rw [HS.out]; simp, ?_, by go_num⟩, by simp [intOf]; try omega⟩
        intro x hx
        rcases List.mem_append.1 hx with hx | hx
        · exact HP.out x hx
        · rw [List.mem_singleton.1 hx]; exact HR.out
end Go.Proofs.Ytjlbmelpoaffpaa.Unw
