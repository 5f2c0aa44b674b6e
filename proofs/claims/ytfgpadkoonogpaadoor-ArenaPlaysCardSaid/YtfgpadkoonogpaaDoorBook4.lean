/- Package besombook: are the lists as they were? (stillInts); and what is left of a book while its lists are marked. -/
import Derived.Test.YtfgpadkoonogpaaDoorBook3
namespace Go.Proofs.YtfgpadkoonogpaaDoor.Book
open Go.RowKit
set_option linter.unusedSimpArgs false
set_option linter.unusedVariables false

theorem Own.ri {w : World} {S : Nat → Prop} {base m : Nat} {ks : List KL} (h : Own w S base ks m) {A : Option Addr} {n c : Nat} {xs : List Int} (hp : (Value.slice A n c, xs) ∈ ks) (hn : n = xs.length) : RI w w.heap.size A n c xs := by
  subst hn
  exact ⟨rfl, Reads.of_own (h _ hp).1⟩
/-- A row of lists, read at one place. -/
theorem row_at {w : World} {S : Nat → Prop} {base m B : Nat} {ks : List KL} (h : Own w S base ks m) {a : Option Addr} {n c : Nat} (ho : w.ownsRow B 27 1 (.slice a n c) ks.length (ks.map Prod.fst)) (hn : n = ks.length) {k : Nat} (hk : k < ks.length) :
    ∃ g A cc xs, a = some ⟨g, 0, none⟩ ∧ g < w.heap.size ∧ w.cell? ⟨g, k, none⟩ = some (.slice A xs.length cc) ∧ ks[k]? = some (.slice A xs.length cc, xs) ∧ w.ownsRow base 3 1 (.slice A xs.length cc) xs.length (xs.map (.int .i64)) ∧ xs.length ≤ m := by
  subst hn
  obtain ⟨p, hp⟩ : ∃ p, ks[k]? = some p := ⟨_, List.getElem?_eq_getElem hk⟩
  have hm := List.mem_of_getElem? hp
  obtain ⟨A, cc, hv⟩ := h.slice hm
  obtain ⟨v, xs⟩ := p
  dsimp only at hv
  subst hv
  rcases ho.2 with ⟨_, h2⟩ | ⟨g, cap, cur, hv, hb, hh, hnc, hm2, hs, ht⟩
  · omega
  · injection hv with h1 _ h4
    subst h1
    refine ⟨g, A, cc, xs, rfl, (Array.getElem?_eq_some_iff.1 hh).1, ?_, hp, (h _ hm).1, (h _ hm).2.1⟩
    have := ho.cells (g := g) rfl k (.slice A xs.length cc) (by rw [List.getElem?_map, hp]; rfl)
    rwa [add_form, Nat.zero_add] at this
set_option maxRecDepth 100000 in
set_option maxHeartbeats 1000000 in
theorem still_any (w : World) (S : Nat → Prop) (base b : Nat) (ks ms : List KL) (vI vW : Value) (h : BookAt w S base b ks ms vI vW) (hlen : ms.length = ks.length) (hsame : ∀ (i : Nat) (p q : KL), ks[i]? = some p → ms[i]? = some q → p.2 = q.2) :
    Calls Tryd.prog 52 #[.pointer (some ⟨b, 0, none⟩)] w fun e w' => e = .returned (.bool true) ∧ ∃ n, w' = w.drewN n := by
  obtain ⟨aI, cI, rfl⟩ := slice_form h.oI
  obtain ⟨aW, cW, rfl⟩ := slice_form h.oW
  have c0 := h.blk.cell 0
  have c1 := h.blk.cell 1
  simp at c0 c1
  have hl : (ks.length : Int) ≤ 250 := by have := h.few; omega
  have HL := Lib.hid hlen
  have HS := Lib.hid hsame
  have H := Lib.hid h
  clear h hlen hsame
  go_enter Tryd.func52, Tryd.ntmps52
  go_wp2_with fail
  go_loopw [3] (fun i wr => ∃ k d : Nat, k ≤ ks.length ∧ i = .int .i64 k ∧ wr = w.drewN d) (fun i _ => ks.length - (intOf i).toNat)
  case atStart => exact ⟨0, 0, Nat.zero_le _, rfl, rfl⟩
  case round =>
    obtain ⟨k, d, hk, rfl, hwr⟩ := hrel
    have H1 := Lib.hid (show BookAt wr S base b ks ms _ _ from by rw [hwr]; exact H.out.drewN d)
    have HW := Lib.hid hwr
    clear c0 c1 hwr
    have c0 := H1.out.blk.cell 0
    have c1 := H1.out.blk.cell 1
    simp at c0 c1
    by_cases hlt : k < ks.length
    · obtain ⟨g1, A1, e1, xs, rfl, hg1, hc1, hx1, ho1, _⟩ := row_at H1.out.li H1.out.oI rfl hlt
      obtain ⟨g2, A2, e2, ys, rfl, hg2, hc2, hx2, ho2, _⟩ := row_at H1.out.lw H1.out.oW rfl (k := k) (by have := HL.out; omega)
      obtain rfl : xs = ys := HS.out k _ _ hx1 hx2
      have HA := Lib.hid (show RI wr wr.heap.size A1 xs.length e1 xs from ⟨rfl, Reads.of_own ho1⟩)
      have HB := Lib.hid (show RI wr wr.heap.size A2 xs.length e2 xs from ⟨rfl, Reads.of_own ho2⟩)
      clear hx1 hx2 ho1 ho2
      have hk0 : (0 : Int) ≤ (k : Int) := by omega
      have hkn : (k : Int) < (ks.length : Int) := by omega
      have hkm : (k : Int) < (ms.length : Int) := by have := HL.out; omega
      go_wp2_with fail
      go_quiet ((go_at_call 18; exact same_true _ HA.out HB.out))
      go_wp2_with fail
      exact ⟨⟨k + 1, _, by omega, by go_num, by rw [HW.out]; exact World.drewN_drewN _ _ _⟩, by simp [intOf]; omega⟩
    · obtain rfl : k = ks.length := by omega
      have hkk : ¬ (ks.length : Int) < (ks.length : Int) := by omega
      go_wp2_with fail
      go_ret
      exact ⟨rfl, d, HW.out⟩
end Go.Proofs.YtfgpadkoonogpaaDoor.Book
