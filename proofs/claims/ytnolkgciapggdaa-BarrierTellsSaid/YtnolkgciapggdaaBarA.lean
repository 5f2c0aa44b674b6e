/- Package barrier: the contract of Args; package shape: the contract of Points. -/
import Derived.Test.YtnolkgciapggdaaBarS
import Derived.Test.YtnolkgciapggdaaArgs
namespace Go.Proofs.Ytnolkgciapggdaa.Bar
open Go.RowKit
set_option linter.unusedSimpArgs false
set_option linter.unusedVariables false

theorem points_yes (k : Int) (w : World) (h1 : 16 ≤ k) (h2 : k < 32) : Calls Try.prog 52 #[.int .i64 k] w fun e w' => e = .returned (.tuple #[.int .i64 (k - 16), .bool true]) ∧ w = w' := by
  go_enter Try.func52, Try.ntmps52
  go_wp2
  go_ret2
  exact ⟨rfl, rfl⟩
theorem points_no (k : Int) (w : World) (h : k < 16 ∨ 32 ≤ k) : Calls Try.prog 52 #[.int .i64 k] w fun e w' => e = .returned (.tuple #[.int .i64 0, .bool false]) ∧ w = w' := by
  by_cases h1 : k < 16
  · clear h
    go_enter Try.func52, Try.ntmps52
    go_wp2
    go_ret2
    exact ⟨rfl, rfl⟩
  · have h2 : 32 ≤ k := by omega
    clear h
    go_enter Try.func52, Try.ntmps52
    go_wp2
    go_ret2
    exact ⟨rfl, rfl⟩

theorem NamesAt.lower {w : World} {B B' b mb : Nat} {l : List Int} (h : NamesAt w B b mb l) (hB : B' ≤ B) : NamesAt w B' b mb l := by
  obtain ⟨v, h1, h2, h3, h4, h5⟩ := h
  refine ⟨v, h1, h2, ⟨h3.1, ?_⟩, by omega, by omega⟩
  rcases h3.2 with hn | ⟨g, cap, cur, hv, hg, rest⟩
  · exact .inl hn
  · exact .inr ⟨g, cap, cur, hv, by omega, rest⟩

/-- What is shaded of the first n arguments. -/
def sh (ks as_ : List Int) : Nat → List Int
  | 0 => []
  | n + 1 => match ks[n]?, as_[n]? with
    | some k, some a => if 16 ≤ k ∧ k < 32 then padd (sh ks as_ n) a else sh ks as_ n
    | _, _ => sh ks as_ n
theorem sh_len (ks as_ : List Int) (n : Nat) : (sh ks as_ n).length ≤ as_.length := by
  have h : ∀ n, (sh ks as_ n).length ≤ n ∧ (sh ks as_ n).length ≤ as_.length := by
    intro n
    induction n with
    | zero => simp [sh]
    | succ n ih =>
      cases hk : ks[n]? with
      | none => simp only [sh, hk]; exact ⟨by omega, ih.2⟩
      | some k =>
        cases ha : as_[n]? with
        | none => simp only [sh, hk, ha]; exact ⟨by omega, ih.2⟩
        | some a =>
          have hn : n < as_.length := (List.getElem?_eq_some_iff.1 ha).1
          have hp := padd_length (sh ks as_ n) a
          simp only [sh, hk, ha]
          split <;> omega
  exact (h n).2

theorem args_idle (p f : Int) (u0 u1 : Value) (FA : Option Addr) (nF cF : Nat) (aA : Option Addr) (nA cA : Nat) (w : World) (hm : nF ≤ 9223372036854775807) (h : (p == 1) = false ∨ f < 0 ∨ (nF : Int) ≤ f) :
    Calls Try.prog 31 #[.int .i64 p, .agg #[u0, u1, .slice FA nF cF], .int .i64 f, .slice aA nA cA] w (Gives [] w) := by
  by_cases h1 : (p == 1) = false
  · have h1' : (p != 1) = true := by simpa using h1
    clear h
    go_enter Try.func31, Try.ntmps31
    go_wp2
    go_ret
    exact ⟨none, 0, rfl, World.ownsRow_nil _ _ _ _, (Below.refl _ _).alloc (Nat.le_refl _) _⟩
  · have hp : p = 1 := by simpa using h1
    subst hp
    clear h1
    by_cases h2 : f < 0
    · clear h
      go_enter Try.func31, Try.ntmps31
      go_wp2
      go_ret
      exact ⟨none, 0, rfl, World.ownsRow_nil _ _ _ _, (Below.refl _ _).alloc (Nat.le_refl _) _⟩
    · have h3 : (nF : Int) ≤ f := by simpa [h2] using h
      clear h
      go_enter Try.func31, Try.ntmps31
      go_wp2
      go_ret
      exact ⟨none, 0, rfl, World.ownsRow_nil _ _ _ _, (Below.refl _ _).alloc (Nat.le_refl _) _⟩

theorem sh_yes {ks as_ : List Int} {n : Nat} {k a : Int} (hk : ks[n]? = some k) (ha : as_[n]? = some a) (h : 16 ≤ k ∧ k < 32) : sh ks as_ (n + 1) = padd (sh ks as_ n) a := by
  simp only [sh, hk, ha]; rw [if_pos h]
theorem sh_no {ks as_ : List Int} {n : Nat} {k : Int} (hk : ks[n]? = some k) (h : ¬ (16 ≤ k ∧ k < 32)) : sh ks as_ (n + 1) = sh ks as_ n := by
  cases ha : as_[n]? with
  | none => simp only [sh, hk, ha]
  | some a => simp only [sh, hk, ha]; rw [if_neg h]
theorem sh_past {ks as_ : List Int} {n : Nat} (ha : as_[n]? = none) : sh ks as_ (n + 1) = sh ks as_ n := by
  cases hk : ks[n]? with
  | none => simp only [sh, hk]
  | some a => simp only [sh, hk, ha]

def Rel (ks as_ : List Int) (w : World) (i : Value) (wr : World) : Prop :=
  ∃ k : Nat, k ≤ ks.length ∧ i = .int .i64 k ∧ NamesAt wr w.heap.size (w.heap.size + 2) (w.heap.size + 1) (sh ks as_ k) ∧ Below w.heap.size w wr

set_option maxRecDepth 1000000 in
set_option maxHeartbeats 1000000 in
theorem args_mark (f : Nat) (u0 u1 : Value) (b off nF cF : Nat) (KA : Option Addr) (nK cK : Nat) (ks : List Int) (aA : Option Addr) (nA cA : Nat) (as_ : List Int) (w : World)
    (hm : nF ≤ 9223372036854775807) (hf : f < nF) (hb : b < w.heap.size) (hc : w.cell? ⟨b, off + f * 5, none⟩ = some (.slice KA nK cK))
    (lk : ks.length = nK) (RK : Reads w w.heap.size 1 KA nK cK (ks.map (.int .i64))) (la : as_.length = nA) (la' : nA ≤ 1000000) (wa : ∀ z ∈ as_, (Lit.int .i64 z).wf = true) (RA : Reads w w.heap.size 1 aA nA cA (as_.map (.int .i64))) :
    Calls Try.prog 31 #[.int .i64 1, .agg #[u0, u1, .slice (some ⟨b, off, none⟩) nF cF], .int .i64 f, .slice aA nA cA] w (Gives (sh ks as_ ks.length) w) := by
  have hmm := @run_makeMap Try.prog
  have hmk : nK ≤ 9223372036854775807 := by have := RK.1; have := RK.2.1; unfold maxLen at this; omega
  have HK := Lib.hid lk
  have HRK := Lib.hid RK
  have HL := Lib.hid la
  have HWA := Lib.hid wa
  have HRA := Lib.hid RA
  have f0 : (0 : Int) ≤ (f : Int) := by omega
  have hb1 : b < w.heap.size + 1 := by omega
  have hb2 : b < w.heap.size + 1 + 1 := by omega
  have f1 : (f : Int) < (nF : Int) := by omega
  clear lk RK la wa RA
  go_enter Try.func31, Try.ntmps31
  go_wp2_with fail
  have HN := Lib.hid (show NamesAt (((w.alloc (.cells #[u0, u1, .slice (some ⟨b, off, none⟩) nF cF] 53)).alloc (.map #[] 0)).alloc (.cells #[.map (some (w.heap.size + 1)), .slice none 0 0] 79)) w.heap.size (w.heap.size + 1 + 1) (w.heap.size + 1) [] by
    have h := namesAt_new (w.alloc (.cells #[u0, u1, .slice (some ⟨b, off, none⟩) nF cF] 53))
    rw [World.size_alloc] at h
    exact h.lower (by omega))
  have HW := Lib.hid (show Below w.heap.size w (((w.alloc (.cells #[u0, u1, .slice (some ⟨b, off, none⟩) nF cF] 53)).alloc (.map #[] 0)).alloc (.cells #[.map (some (w.heap.size + 1)), .slice none 0 0] 79)) from
    (((Below.refl _ _).alloc (Nat.le_refl _) _).alloc (by simp) _).alloc (by simp <;> omega) _)
  generalize (((w.alloc (.cells #[u0, u1, .slice (some ⟨b, off, none⟩) nF cF] 53)).alloc (.map #[] 0)).alloc (.cells #[.map (some (w.heap.size + 1)), .slice none 0 0] 79)) = w2 at *
  go_loopw [37] (fun i wr => Rel ks as_ w i wr) (fun i _ => ks.length - (intOf i).toNat)
  case atStart => exact ⟨0, Nat.zero_le _, rfl, HN.out, HW.out⟩
  case round =>
    clear HN HW hc hmm
    obtain ⟨k, hk, rfl, hN, hw⟩ := hrel
    by_cases hlt : k < nK
    · have hks : k < ks.length := by have := HK.out; omega
      obtain ⟨b1, o1, rfl, hb1, hc1⟩ := (HRK.out.below hw).at_ (j := k) (u := .int .i64 ks[k]) (by simp [hks])
      have hkz : ks[k]? = some ks[k] := List.getElem?_eq_getElem hks
      have HKZ := Lib.hid hkz
      have HNN := Lib.hid hN
      clear hkz hN
      go_wp2_with fail
      by_cases hp : 16 ≤ ks[k] ∧ ks[k] < 32
      · refine (points_yes _ _ hp.1 hp.2).mono ?_
        rintro e w1 ⟨rfl, rfl⟩
        have HP := Lib.hid hp
        clear hp
        dsimp only
        by_cases hka : k < nA
        · have hkas : k < as_.length := by have := HL.out; omega
          have haz : as_[k]? = some as_[k] := List.getElem?_eq_getElem hkas
          obtain ⟨b2, o2, rfl, hb2, hc2⟩ := (HRA.out.below hw).at_ (j := k) (u := .int .i64 as_[k]) (by simp [haz])
          have hwz := HWA.out as_[k] (List.getElem_mem hkas)
          have HAZ := Lib.hid haz
          have HWZ := Lib.hid hwz
          have HLS := Lib.hid (sh_len ks as_ k)
          clear haz hwz
          generalize hav : as_[k] = av at *
          clear hav
          go_wp2_with fail
          refine (put_any w.heap.size _ (w.heap.size + 1) (sh ks as_ k) av _ HNN.out HWZ.out (by have := HLS.out; have := HL.out; omega)).mono ?_
          rintro e w1 ⟨rfl, h1, hb1⟩
          rw [← sh_yes HKZ.out HAZ.out HP.out] at h1
          have H1 := Lib.hid h1
          clear h1
          dsimp only
          go_wp2_with fail
          exact ⟨⟨k + 1, hks, by go_num, H1.out, hw.trans hb1⟩, by simp [intOf]; omega⟩
        · have haz : as_[k]? = none := by have := HL.out; exact List.getElem?_eq_none (by omega)
          have HAZ := Lib.hid haz
          clear haz
          go_wp2_with fail
          exact ⟨⟨k + 1, hks, by go_num, by rw [sh_past HAZ.out]; exact HNN.out, hw⟩, by simp [intOf]; omega⟩
      · refine (points_no _ _ (by omega)).mono ?_
        rintro e w1 ⟨rfl, rfl⟩
        have HP := Lib.hid hp
        clear hp
        dsimp only
        go_wp2_with fail
        exact ⟨⟨k + 1, hks, by go_num, by rw [sh_no HKZ.out HP.out]; exact HNN.out, hw⟩, by simp [intOf]; omega⟩
    · have hkl : k = ks.length := by have := HK.out; omega
      subst hkl
      obtain ⟨a, c, hc, ho⟩ := names_read hN
      have HR := Lib.hid ho
      have HW := Lib.hid hw
      clear hN ho
      generalize sh ks as_ ks.length = l at *
      go_wp2_with fail
      go_ret
      exact ⟨a, c, rfl, HR.out, HW.out⟩
end Go.Proofs.Ytnolkgciapggdaa.Bar
