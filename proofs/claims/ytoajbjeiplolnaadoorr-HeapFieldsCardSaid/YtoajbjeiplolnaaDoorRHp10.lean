/- Package heap: the contract of New. -/
import Derived.Test.YtoajbjeiplolnaaDoorRHp9
namespace Go.Proofs.YtoajbjeiplolnaaDoorR.Hp
open Go.RowKit Pg Ar Tm
set_option linter.unusedSimpArgs false
set_option linter.unusedVariables false

/-- A heap with nothing in it. -/
def start (n : Nat) : HS := ⟨List.replicate n none, List.replicate (32 * n) 0, fun _ _ => none, 0, 0⟩
def NewIs (pages : Int) (ls : List (List Int)) (w : World) (e : Ending) (w' : World) : Prop :=
  ∃ B : HB, e = .returned (.tuple #[.pointer (some ⟨B.b, 0, none⟩), .int .i64 0]) ∧ HpAt w' B ls (start (min (max pages 0) 64).toNat) ∧ w.heap.size ≤ B.z ∧ Below w.heap.size w w'
theorem infoSh : (Tryd.prog.info? 64).map (fun i => (i.zero, i.size, i.bytes)) = some (some (.agg #[.slice none 0 0]), 1, 24) := by kernel_rfl
theorem chk_ok {ls : List (List Int)} (h : Shp.chk ls = 0) : ls.length ≤ 16 ∧ ∀ l ∈ ls, 1 ≤ l.length ∧ l.length ≤ 16 := by
  unfold Shp.chk at h
  split at h
  · cases h
  refine ⟨by omega, ?_⟩
  suffices hs : ∀ (n : Int) (l' : List (List Int)), Shp.chkL n l' = 0 → ∀ l ∈ l', 1 ≤ l.length ∧ l.length ≤ 16 from hs _ _ h
  intro n l'
  induction l' with
  | nil => intro _ l hl; cases hl
  | cons x r ih =>
    intro hx l hl
    unfold Shp.chkL at hx
    split at hx
    · rename_i h1
      rcases List.mem_cons.1 hl with rfl | hl
      · unfold Shp.chk1 at h1
        split at h1
        · cases h1
        · omega
      · exact ih hx l hl
    · contradiction
/-- The copies of the first shapes. -/
def ShR (w : World) (z : Nat) (v : Value) (q : Nat) (ls : List (List Int)) : Prop :=
  ∃ (a : Option Addr) (c : Nat) (vs : List Value), v = .slice a q c ∧ w.ownsRow z 64 1 (.slice a q c) q vs ∧ ∀ i l, i < q → ls[i]? = some l → ∃ A' c', vs[i]? = some (.slice A' l.length c') ∧ w.ownsRow z 3 1 (.slice A' l.length c') l.length (l.map (.int .i64))
theorem ShR.rs {w : World} {z : Nat} {v : Value} {ls : List (List Int)} (h : ShR w z v ls.length ls) (hw : ∀ l ∈ ls, ∀ x ∈ l, (Lit.int .i64 x).wf = true) : ∃ a c, v = .slice a ls.length c ∧ Shp.RS w w.heap.size a ls.length c ls := by
  obtain ⟨a, c, vs, rfl, h1, h2⟩ := h
  have hr := Reads.of_own h1
  refine ⟨a, c, rfl, rfl, hr.1, hr.2.1, fun i l hl => ?_⟩
  have hi := (List.getElem?_eq_some_iff.1 hl).1
  obtain ⟨A', c', h3, h4⟩ := h2 i l hi hl
  obtain ⟨b, off, rfl, hb, hc⟩ := hr.at_ h3
  exact ⟨b, off, A', c', rfl, hb, hc, ⟨rfl, Reads.of_own h4⟩, hw l (List.mem_of_getElem? hl)⟩
set_option maxRecDepth 100000 in
set_option maxHeartbeats 1000000 in
theorem new_any (pages : Int) (SA : Option Addr) (n c : Nat) (ls : List (List Int)) (w : World) (hR : Shp.RS w w.heap.size SA n c ls) (hc : Shp.chk ls = 0) :
    Calls Tryd.prog 37 #[.int .i64 pages, .slice SA n c] w (NewIs pages ls w) := by
  have hmm := @run_makeMap Tryd.prog
  have HR := Lib.hid hR
  have HC := Lib.hid hc
  have HLS := Lib.hid (chk_ok hc)
  have HI := Lib.hid (info_parts Book.infoI)
  have HIS := Lib.hid (info_parts infoSh)
  have hn := hR.1
  have hn16 := (chk_ok hc).1
  clear hR hc
  subst hn
  go_enter Tryd.func37, Tryd.ntmps37
  go_wp2_with fail
  refine (Shp.check_any _ _ _ _ _ HR.out).mono ?_
  rw [HC.out]
  rintro e w1 ⟨rfl, hb⟩
  have HB1 := Lib.hid hb
  clear hb
  dsimp only
  go_wp2_with fail
  go_loopw [7, 17] (fun v i wr => ∃ q : Nat, q ≤ ls.length ∧ i = .int .i64 (q : Int) ∧ ShR wr w.heap.size v q ls ∧ Below w.heap.size w wr) (fun _ i _ => ls.length - (intOf i).toNat)
  case atStart => exact ⟨0, Nat.zero_le _, rfl, ⟨none, 0, [], rfl, World.ownsRow_nil _ _ _ _, fun i l hi => by omega⟩, HB1.out⟩
  case round =>
    obtain ⟨q, hq, rfl, ⟨a, c2, vs, rfl, ho, hall⟩, hbe⟩ := hrel
    have HO := Lib.hid ho
    have HAL := Lib.hid hall
    have HBE := Lib.hid hbe
    have hz := hbe.size
    clear ho hall hbe HB1
    by_cases hlt : q < ls.length
    · have hlt2 : (q : Int) < (ls.length : Int) := by omega
      obtain ⟨l, hl⟩ : ∃ l, ls[q]? = some l := ⟨_, List.getElem?_eq_getElem hlt⟩
      obtain ⟨sb, off, A1, c1, hSA, hsb, hsc, hRI, hwf⟩ := HR.out.2.2.2 q l hl
      have HL := Lib.hid hl
      have hll := HLS.out.2 l (List.mem_of_getElem? hl)
      have hsc1 := (HBE.out.cell (p := ⟨sb, off + q, none⟩) hsb).trans hsc
      have HRL := Lib.hid (hRI.2.below HBE.out)
      subst hSA
      clear hl hRI hwf hsc
      have HW0 := Lib.hid (HBE.out.alloc hz (.cells #[.slice A1 l.length c1] 64))
      have HRW := Lib.hid (HRL.out.below ((Below.refl w.heap.size wr).alloc hz (.cells #[.slice A1 l.length c1] 64)))
      go_wp2_with (first
        | (at_builtin; go_loud (refine wpList_app _ rfl _ _ 27 rfl w.heap.size 3 HI.out.choose (.int .i64 0) 1 8 Tryd.underlying27 HI.out.choose_spec.1 HI.out.choose_spec.2.1 HI.out.choose_spec.2.2.1 HI.out.choose_spec.2.2.2 rfl (by decide) (.slice none 0 0) 0 [] rfl (World.ownsRow_nil _ _ _ _) w.heap.size A1 l.length c1 (l.map (.int .i64)) rfl HRW.out ?a1 ?a2 ?a3 ?a4 ?_))
        | fail)
      case a1 => intro u hu; obtain ⟨x, _, rfl⟩ := List.mem_map.1 hu; rfl
      case a2 => unfold maxLen; omega
      case a3 => omega
      case a4 => simp; omega
      intro a3 c3 w3 ho3 hg3 hat3
      have hb3 : Below w.heap.size w w3 := HW0.out.grown hg3 (by simp; omega) (fun k hk => by cases hk)
      have ho3' : w3.ownsRow w.heap.size 3 1 (.slice a3 l.length c3) l.length (l.map (.int .i64)) := by simpa using ho3
      have hk3 : ∀ m, m < wr.heap.size → w3.heap[m]? = wr.heap[m]? := fun m hm => (hg3.block m (by simp; omega) (by simp [Value.ownBlock])).trans (Below.heap_alloc wr _ m hm)
      have HO3 := Lib.hid (own_block HO.out fun m e => hk3 m (HO.out.lt m e).2)
      have HN3 := Lib.hid ho3'
      have HAL3 := Lib.hid (show ∀ i l, i < q → ls[i]? = some l → ∃ A' c', vs[i]? = some (.slice A' l.length c') ∧ w3.ownsRow w.heap.size 3 1 (.slice A' l.length c') l.length (l.map (.int .i64)) from fun i l' hi hl' => by
        obtain ⟨A', c', h1, h2⟩ := HAL.out i l' hi hl'
        exact ⟨A', c', h1, own_block h2 fun m e => hk3 m (h2.lt m e).2⟩)
      have HB3 := Lib.hid hb3
      have hz3 := hb3.size
      clear ho3 hg3 hat3 hb3 ho3' hk3 HW0 HRW HRL hsc1 hsb
      go_wp2_with (first
        | (at_builtin; go_loud (refine wpList_app _ rfl _ _ 72 rfl w.heap.size 64 HIS.out.choose (.agg #[.slice none 0 0]) 1 24 Tryd.underlying72 HIS.out.choose_spec.1 HIS.out.choose_spec.2.1 HIS.out.choose_spec.2.2.1 HIS.out.choose_spec.2.2.2 rfl (by decide) _ _ _ rfl (HO3.out.alloc _) (w3.heap.size + 1) _ 1 1 [.slice a3 l.length c3] rfl (Blk.reads (Blk.new w3 _ _) (by simp) rfl rfl (by decide)) ?b1 ?b2 ?b3 ?b4 ?_))
        | fail)
      case b1 => intro u hu; simp at hu; subst hu; rfl
      case b2 => unfold maxLen; omega
      case b3 => omega
      case b4 => simp; omega
      intro a5 c5 w5 ho5 hg5 hat5
      have hki : Book.KeepsInts w3 w5 := (Book.KeepsInts.below ((Below.refl _ _).alloc (Nat.le_refl _) (.cells #[.slice a3 l.length c3] 64))).trans (Book.KeepsInts.grown hg5 (HO3.out.alloc _) (by decide))
      have hb5 : Below w.heap.size w w5 := (HB3.out.alloc hz3 _).grown hg5 (by simp; omega) (fun k hk => (HO3.out.lt k hk).1)
      have HS5 := Lib.hid (show ShR w5 w.heap.size (.slice a5 (q + 1) c5) (q + 1) ls from ⟨a5, c5, vs ++ [.slice a3 l.length c3], rfl, by simpa using ho5, fun i l' hi hl' => by
        have hvl : vs.length = q := by have := HO3.out.1; omega
        by_cases hiq : i < q
        · obtain ⟨A', c', h1, h2⟩ := HAL3.out i l' hiq hl'
          exact ⟨A', c', by rw [List.getElem?_append_left (by omega)]; exact h1, hki _ _ _ _ h2⟩
        · obtain rfl : i = q := by omega
          rw [HL.out] at hl'
          have hl' := Option.some.inj hl'
          subst hl'
          exact ⟨a3, c3, by rw [List.getElem?_append_right (by omega), hvl]; simp, hki _ _ _ _ HN3.out⟩⟩)
      have HB5 := Lib.hid hb5
      clear ho5 hg5 hat5 hki hb5
      go_wp2_with fail
      go_roundw
      case rel => exact ⟨q + 1, by omega, by go_num, HS5.out, HB5.out⟩
      case measure => simp [intOf]; omega
    · obtain rfl : q = ls.length := by omega
      have hlt2 : ¬ (ls.length : Int) < (ls.length : Int) := by omega
      have hwf : ∀ l ∈ ls, ∀ x ∈ l, (Lit.int .i64 x).wf = true := fun l hl => by
        obtain ⟨i, hi⟩ := List.mem_iff_getElem?.1 hl
        obtain ⟨_, _, _, _, _, _, _, _, h⟩ := HR.out.2.2.2 i l hi
        exact h
      obtain ⟨a', c', hsl, hrs⟩ := ShR.rs ⟨a, c2, vs, rfl, HO.out, HAL.out⟩ hwf
      have HRS := Lib.hid hrs
      injection hsl with e1 e2 e3
      subst e1 e3
      clear hrs hwf
      go_wp2_with fail
      refine (Ar.new_any pages _).mono ?_
      rintro e w2 ⟨b, gp, gw, rfl, ha, hb1, hb2, hb3, hbe⟩
      have HA := Lib.hid ha
      have HB2 := Lib.hid hbe
      have hz2 := hbe.size
      clear ha hbe
      dsimp only
      go_wp2_with fail
      go_ret2
      have hmap := TMap.made w2
      have hW : Below w2.heap.size w2 ((w2.alloc (.map #[] 0)).alloc (.cells #[.pointer (some ⟨b, 0, none⟩), .slice a ls.length c2, .map (some w2.heap.size), .int .i64 0, .int .i64 0] 134)) := ((Below.refl _ _).alloc (Nat.le_refl _) _).alloc (by simp) _
      have hblk := Blk.new (w2.alloc (.map #[] 0)) #[.pointer (some ⟨b, 0, none⟩), .slice a ls.length c2, .map (some w2.heap.size), .int .i64 0, .int .i64 0] 134
      rw [World.size_alloc] at hblk
      have hnone : ∀ (k : Nat) (p : PM), ¬ (List.replicate (min (max pages 0) 64).toNat (none : Option PM))[k]? = some (some p) := fun k p hk => by
        rw [List.getElem?_replicate] at hk
        split at hk <;> simp at hk
      refine ⟨⟨wr.heap.size, w2.heap.size + 1, b, gp, gw, w2.heap.size, a, c2⟩, rfl, ⟨⟨hblk, HA.out.call hW, hmap.block (Below.heap_alloc _ _ _ (by simp)), ?_, ?_, HLS.out.2⟩, ?_, ?_⟩, HBE.out.size, (HBE.out.trans (HB2.out.mono HBE.out.size)).trans (hW.mono (by have := HBE.out.size; omega))⟩
      · exact rs_same HRS.out fun i hi => (hW.block i (by have hi : i < wr.heap.size := hi; omega)).trans (HB2.out.block i hi)
      · rintro i (rfl | rfl | hi)
        · show wr.heap.size ≤ w2.heap.size + 1
          omega
        · exact hz2
        · rcases hi with rfl | rfl | rfl | ⟨k, p, hk, rfl⟩
          · exact hb1
          · exact hb2
          · exact hb3
          · exact absurd hk (hnone k p)
      · intro k s
        constructor
        · intro h; cases h
        · rintro ⟨p, hp, _⟩; exact absurd hp (hnone k p)
      · intro k s t p ht
        cases ht
end Go.Proofs.YtoajbjeiplolnaaDoorR.Hp
