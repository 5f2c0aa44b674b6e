/- Package besombook: SameObjects, of the objects of two heaps that are one but for places. -/
import Derived.Test.YtfgpadkoonogpaaDoorOf
import Derived.Test.YtfgpadkoonogpaaDoorDt
import Derived.Test.YtfgpadkoonogpaaDoorBook
namespace Go.Proofs.YtfgpadkoonogpaaDoor.Hp
open Go.RowKit Pg Ar Tm
set_option linter.unusedSimpArgs false
set_option linter.unusedVariables false

theorem ocs_get : ∀ {os : List OC} {i : Nat} {o : OC}, os[i]? = some o → ∀ j, j < 5 → (os.flatMap ocs)[i * 5 + j]? = (ocs o)[j]?
  | [], i, o, h, j, hj => by simp at h
  | x :: os, 0, o, h, j, hj => by
    have h : some x = some o := h
    injection h with h
    subst h
    rw [List.flatMap_cons, Nat.zero_mul, Nat.zero_add, List.getElem?_append_left (by simpa [ocs] using hj)]
  | x :: os, i + 1, o, h, j, hj => by
    rw [List.flatMap_cons, List.getElem?_append_right (by simp [ocs]; omega)]
    rw [show (i + 1) * 5 + j - (ocs x).length = i * 5 + j by simp [ocs]; omega]
    exact ocs_get (os := os) h j hj
theorem obs_two {ls : List (List Int)} {σ τ : HS} {L : List Int} {os os' : List OC} (hS : Same σ τ) (h1 : ObsIs ls σ L os) (h2 : ObsIs ls τ L os') {i : Nat} (hi : i < os.length) :
    ∃ (x sh se : Int) (A A' : Option Addr) (nf c c' : Nat) (mk : Bool) (fl : List Int), os[i]? = some (x, sh, se, (A, nf, c), mk) ∧ os'[i]? = some (x, sh, se, (A', nf, c'), mk) ∧ fl.length = nf ∧ fv ls σ x = fl ∧ fv ls τ x = fl := by
  obtain ⟨o, ho⟩ : ∃ o, os[i]? = some o := ⟨_, List.getElem?_eq_getElem hi⟩
  obtain ⟨o', ho'⟩ : ∃ o', os'[i]? = some o' := ⟨_, List.getElem?_eq_getElem (by rw [obs_len h2, ← obs_len h1]; exact hi)⟩
  obtain ⟨a, ha, e1, k, s, t, e2, e3, e4, e5, e6, e7⟩ := obs_at h1 ho
  obtain ⟨a', ha', g1, k', s', t', g2, g3, g4, g5, g6, g7⟩ := obs_at h2 ho'
  rw [ha] at ha'
  injection ha' with ha'
  subst ha'
  rw [hS.hat_] at e2
  rw [e2] at g2
  injection g2 with g2
  injection g2 with g2 g2'
  subst g2 g2'
  rw [hS.M, g3] at e3
  injection e3 with e3
  subst e3
  obtain ⟨x, sh, se, ⟨A, nf, c⟩, mk⟩ := o
  obtain ⟨x', sh', se', ⟨A', nf', c'⟩, mk'⟩ := o'
  dsimp only at e1 e4 e5 e6 e7 g1 g4 g5 g6 g7
  rw [hS.nfl_] at e6
  subst e1 e4 e5 e6 e7 g1 g4 g5 g6 g7
  have hf : fv ls σ x' = flds ls τ x' k s := by
    unfold fv
    rw [hS.hat_, e2]
    exact hS.flds_ ls x' k s
  have hf' : fv ls τ x' = flds ls τ x' k s := by
    unfold fv
    rw [e2]
  exact ⟨x', _, _, A, A', _, c, c', _, _, ho, ho', flds_len ls τ x' k s, hf, hf'⟩
set_option maxRecDepth 100000 in
set_option maxHeartbeats 4000000 in
theorem sameObjs_any (w : World) (ls : List (List Int)) (σ τ : HS) (L : List Int) (os os' : List OC) (a a' : Option Addr) (c c' z z' : Nat) (hS : Same σ τ) (h1 : ObsIs ls σ L os) (h2 : ObsIs ls τ L os')
    (o1 : w.ownsRow z 68 5 (.slice a os.length c) os.length (os.flatMap ocs)) (o2 : w.ownsRow z' 68 5 (.slice a' os'.length c') os'.length (os'.flatMap ocs)) (f1 : ∀ o ∈ os, OfR z w ls σ o) (f2 : ∀ o ∈ os', OfR z' w ls τ o) (hb : os.length ≤ 100000) :
    Calls Tryd.prog 42 #[.slice a os.length c, .slice a' os'.length c'] w fun e w' => e = .returned (.bool true) ∧ ∃ n, w' = w.drewN n := by
  have hl : os'.length = os.length := by rw [obs_len h2, ← obs_len h1]
  have HT := Lib.hid (fun (i : Nat) (hi : i < os.length) => obs_two hS h1 h2 hi)
  have HO1 := Lib.hid o1
  have HO2 := Lib.hid (hl ▸ o2)
  have HF1 := Lib.hid f1
  have HF2 := Lib.hid f2
  clear o1 o2 f1 f2 hS h1 h2
  obtain ⟨n, hn⟩ : ∃ n, os.length = n := ⟨_, rfl⟩
  rw [hl]
  rw [hn] at HT HO1 HO2 hb ⊢
  clear hl hn
  go_enter Tryd.func42, Tryd.ntmps42
  go_wp2_with fail
  go_loopw [5] (fun i wr => ∃ k d : Nat, k ≤ n ∧ i = .int .i64 k ∧ wr = w.drewN d) (fun i _ => n - (intOf i).toNat)
  case atStart => exact ⟨0, 0, Nat.zero_le _, rfl, rfl⟩
  case round =>
    obtain ⟨k, d, hk, rfl, hwr⟩ := hrel
    have HW := Lib.hid hwr
    by_cases hlt : k < n
    · obtain ⟨x, sh, se, A, A', nf, e1, e2, mk, fl, hx, hx', hfl, hv, hv'⟩ := HT.out k hlt
      have HA := Lib.hid (show Book.RI wr wr.heap.size A nf e1 fl from ⟨hfl, by
        have := HF1.out _ (List.mem_of_getElem? hx)
        unfold OfR at this
        dsimp only at this
        rw [hv] at this
        rw [hwr]
        exact Reads.of_own (own_block this fun _ _ => rfl)⟩)
      have HB := Lib.hid (show Book.RI wr wr.heap.size A' nf e2 fl from ⟨hfl, by
        have := HF2.out _ (List.mem_of_getElem? hx')
        unfold OfR at this
        dsimp only at this
        rw [hv'] at this
        rw [hwr]
        exact Reads.of_own (own_block this fun _ _ => rfl)⟩)
      have ho1 : wr.ownsRow z 68 5 (.slice a n c) n (os.flatMap ocs) := by rw [hwr]; exact own_block HO1.out fun _ _ => rfl
      have ho2 : wr.ownsRow z' 68 5 (.slice a' n c') n (os'.flatMap ocs) := by rw [hwr]; exact own_block HO2.out fun _ _ => rfl
      obtain ⟨g, rfl⟩ : ∃ g, a = some ⟨g, 0, none⟩ := by
        rcases ho1.2 with ⟨_, h⟩ | ⟨g, cap, _, h, _⟩
        · exfalso; omega
        · injection h with h3; exact ⟨g, h3⟩
      obtain ⟨g', rfl⟩ : ∃ g, a' = some ⟨g, 0, none⟩ := by
        rcases ho2.2 with ⟨_, h⟩ | ⟨g, cap, _, h, _⟩
        · exfalso; omega
        · injection h with h3; exact ⟨g, h3⟩
      have hg := (ho1.lt g rfl).2
      have hg' := (ho2.lt g' rfl).2
      have hc : ∀ j u, (ocs ((x, sh, se, (A, nf, e1), mk) : OC))[j]? = some u → j < 5 → wr.cell? ⟨g, k * 5 + j, none⟩ = some u := fun j u hu hj => by
        have := ho1.cells (g := g) rfl (k * 5 + j) u ((ocs_get hx j hj).trans hu)
        rw [add_form] at this
        simpa using this
      have hc' : ∀ j u, (ocs ((x, sh, se, (A', nf, e2), mk) : OC))[j]? = some u → j < 5 → wr.cell? ⟨g', k * 5 + j, none⟩ = some u := fun j u hu hj => by
        have := ho2.cells (g := g') rfl (k * 5 + j) u ((ocs_get hx' j hj).trans hu)
        rw [add_form] at this
        simpa using this
      have p0 := hc 0 _ rfl (by omega)
      have p1 := hc 1 _ rfl (by omega)
      have p2 := hc 2 _ rfl (by omega)
      have p3 := hc 3 _ rfl (by omega)
      have p4 := hc 4 _ rfl (by omega)
      have r0 := hc' 0 _ rfl (by omega)
      have r1 := hc' 1 _ rfl (by omega)
      have r2 := hc' 2 _ rfl (by omega)
      have r3 := hc' 3 _ rfl (by omega)
      have r4 := hc' 4 _ rfl (by omega)
      rw [Nat.add_zero] at p0 r0
      clear hx hx' hfl hv hv' ho1 ho2 hc hc' hwr
      have hk0 : (0 : Int) ≤ (k : Int) := by omega
      have hkn : (k : Int) < (n : Int) := by omega
      have hbx : (x == x) = true := by simp
      have hbs : (sh == sh) = true := by simp
      have hbe : (se == se) = true := by simp
      have hbm : (mk == mk) = true := by simp
      go_wp2_with fail
      go_quiet ((go_at_call 18; exact Book.same_true _ HA.out HB.out))
      go_wp2_with fail
      exact ⟨⟨k + 1, _, by omega, by go_num, by rw [HW.out]; exact World.drewN_drewN _ _ _⟩, by simp [intOf]; omega⟩
    · obtain rfl : k = n := by omega
      have hkk : ¬ (k : Int) < (k : Int) := by omega
      go_wp2_with fail
      go_ret
      exact ⟨rfl, d, rfl⟩
end Go.Proofs.YtfgpadkoonogpaaDoor.Hp
