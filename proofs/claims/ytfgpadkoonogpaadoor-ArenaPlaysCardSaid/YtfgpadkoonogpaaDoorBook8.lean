/- Package besombook: the contract of growInts. -/
import Derived.Test.YtfgpadkoonogpaaDoorBook7
namespace Go.Proofs.YtfgpadkoonogpaaDoor.Book
open Go.RowKit
set_option linter.unusedSimpArgs false
set_option linter.unusedVariables false

theorem marks1_any (i f : Nat) (w : World) (hi : i ≤ 1000) (hf : f ≤ 1000000) : Calls Tryd.prog 95 #[.int .i64 i, .int .i64 f, .int .i64 1] w (Copies (marks i f 1) w) := marks_any i f 1 w hi hf (by omega)
theorem marks60_any (i f : Nat) (w : World) (hi : i ≤ 1000) (hf : f ≤ 1000000) : Calls Tryd.prog 95 #[.int .i64 i, .int .i64 f, .int .i64 60] w (Copies (marks i f 60) w) := marks_any i f 60 w hi hf (by omega)
def Marked (ks : List KL) : Prop := ∀ (j : Nat) (p : KL), ks[j]? = some p → p.2 = marks j 0 p.2.length
/-- The lists were grown: the new ones. -/
def GrowPost (w : World) (S : Nat → Prop) (base b : Nat) (ks : List KL) (vI vW : Value) (e : Ending) (w' : World) : Prop :=
  ∃ (gs : List KL) (a : Option Addr) (c : Nat), e = .returned (.slice a ks.length c) ∧ BK w' S base b ks vI vW ∧ Kept S w w' ∧ w'.ownsRow w.heap.size 27 1 (.slice a ks.length c) gs.length (gs.map Prod.fst) ∧ gs.length = ks.length ∧ Own w' S base gs 100000 ∧ Marked gs
set_option maxRecDepth 100000 in
set_option maxHeartbeats 2000000 in
theorem grow_any (w : World) (S : Nat → Prop) (base b : Nat) (ks : List KL) (vI vW : Value) (h : BK w S base b ks vI vW) (hm : Marked ks) (hS : ∀ k, w.heap.size ≤ k → S k) (hbase : base ≤ w.heap.size) :
    Calls Tryd.prog 62 #[.pointer (some ⟨b, 0, none⟩)] w (GrowPost w S base b ks vI vW) := by
  obtain ⟨i0, hi0, hz0, hz1, hz2⟩ := info_parts infoL
  have HI := Lib.hid (⟨hi0, hz0, hz1, hz2⟩ : Tryd.prog.info? 27 = some i0 ∧ i0.zero = some (.slice none 0 0) ∧ i0.size = 1 ∧ i0.bytes = 24)
  obtain ⟨j0, hj0, hy0, hy1, hy2⟩ := info_parts infoI
  have HJ := Lib.hid (⟨hj0, hy0, hy1, hy2⟩ : Tryd.prog.info? 3 = some j0 ∧ j0.zero = some (.int .i64 0) ∧ j0.size = 1 ∧ j0.bytes = 8)
  clear hi0 hz0 hz1 hz2 hj0 hy0 hy1 hy2
  obtain ⟨aI, cI, rfl⟩ := slice_form h.oI
  have hl : (ks.length : Int) ≤ 250 := by have := h.few; omega
  have c0 := h.blk.cell 0
  simp at c0
  have H := Lib.hid h
  have HM := Lib.hid hm
  have HS := Lib.hid hS
  have HLow := Lib.hid (show ∀ p ∈ ks, ∀ q, p.1.ownBlock = some q → q < w.heap.size from fun p hp q e => h.li.lt hp e)
  have HLowI := Lib.hid (show ∀ q, (Value.slice aI ks.length cI).ownBlock = some q → q < w.heap.size from fun q e => (h.oI.lt q e).2)
  clear h hm hS
  go_enter Tryd.func62, Tryd.ntmps62
  go_wp2_with fail
  go_loopw [3, 4, 5, 6] (fun o i _ _ wr => ∃ (k : Nat) (gs : List KL) (aO : Option Addr) (cO : Nat), k ≤ ks.length ∧ i = .int .i64 k ∧ o = .slice aO k cO ∧ gs.length = k ∧ BK wr S base b ks (.slice aI ks.length cI) vW ∧ Kept S w wr ∧
    wr.ownsRow w.heap.size 27 1 (.slice aO k cO) gs.length (gs.map Prod.fst) ∧ Own wr S base gs 100000 ∧ Marked gs ∧ (∀ (j : Nat) (p : KL) (q : Nat), gs[j]? = some p → p.1.ownBlock = some q → (∃ pk, ks[j]? = some pk ∧ pk.1.ownBlock = some q) ∨ w.heap.size ≤ q) ∧
    (∀ p ∈ gs, ∀ q, p.1.ownBlock = some q → q < wr.heap.size)) (fun _ i _ _ _ => ks.length - (intOf i).toNat)
  case atStart => exact ⟨0, [], none, 0, Nat.zero_le _, rfl, rfl, rfl, H.out, Kept.refl _ _, World.ownsRow_nil _ _ _ _, fun p hp => by simp at hp, fun j p hj => by simp at hj, fun j p q hj => by simp at hj, fun p hp => by simp at hp⟩
  case round =>
    obtain ⟨k, gs, aO, cO, hk, rfl, rfl, hgl, hbk, hkp, hoO, hog, hmg, hloc, hglt⟩ := hrel
    clear c0
    have c0 := hbk.blk.cell 0
    simp at c0
    by_cases hlt : k < ks.length
    · have hkn : (k : Int) < (ks.length : Int) := by omega
      have hk0 : (0 : Int) ≤ (k : Int) := by omega
      obtain ⟨gr, A, cc, xs, rfl, hgr, hcr, hxr, hor, hx⟩ := row_at hbk.li hbk.oI rfl hlt
      have hmx : xs = marks k 0 xs.length := HM.out k _ hxr
      obtain ⟨n, hn⟩ : ∃ n, xs.length = n := ⟨_, rfl⟩
      rw [hn] at hcr hxr hor hx hmx
      subst hmx
      clear hn
      have hx2 : (n : Int) ≤ 99000 := by omega
      have hz := hkp.size
      have HG := Lib.hid (show GS w wr S base b k wr.heap.size ks gs (.slice (some ⟨gr, 0, none⟩) ks.length cI) vW (.slice aO k cO) (.slice A n cc) (.slice A n cc) n 0 from
        ⟨hbk, hkp, hoO, hog, hmg, hloc, HLow.out, HLowI.out, HS.out, hgl, hz, Nat.le_refl _, hglt, hor, .inl rfl, hxr⟩)
      clear hbk hkp hoO hog hmg hloc hglt hor hxr H HM HS HLow HLowI
      go_wp2_with fail
      obtain ⟨wo, rfl⟩ : ∃ wo : World, wo = wr := ⟨_, rfl⟩
      go_loopw [5, 6] (fun l t wx => ∃ (t' m : Nat) (al : Option Addr) (cl : Nat), t' ≤ 12 ∧ t = .int .i64 t' ∧ m = n + t' ∧ l = .slice al m cl ∧ GS w wx S base b k wo.heap.size ks gs (.slice (some ⟨gr, 0, none⟩) ks.length cI) vW (.slice aO k cO) (.slice A n cc) (.slice al m cl) n t') (fun _ t _ => 12 - (intOf t).toNat)
      case atStart => exact ⟨0, n, A, cc, Nat.zero_le _, rfl, rfl, rfl, HG.out⟩
      case round =>
        obtain ⟨t, m, al, cl, ht, rfl, hmn, rfl, hgs⟩ := hrel
        have HMN := Lib.hid hmn
        have hm1 : (m : Int) ≤ 100000 := by omega
        have hm2 : m ≤ 100000 := by omega
        have HG1 := Lib.hid hgs
        clear hmn hgs c0 hcr HG
        by_cases htl : t < 12
        · have ht1 : (t : Int) < 12 := by omega
          go_wp2_with fail
          refine (marks1_any k m _ (by omega) (by omega)).mono ?_
          rintro e w1 ⟨a1, c1, rfl, ho1, hb1⟩
          rw [marks_length] at ho1
          have HG2 := Lib.hid (HG1.out.call hb1)
          have HO1 := Lib.hid ho1
          have hL : w1.ownsRow base 3 1 (.slice al m cl) m ((marks k 0 m).map (.int .i64)) := by rw [HMN.out]; exact (by have := HG2.out.lown; rw [HMN.out] at this; exact this)
          have HL1 := Lib.hid hL
          have hbz : base ≤ w1.heap.size := by have := HG2.out.sz; have := HG2.out.szB; omega
          clear ho1 hb1 hL
          rw [marks_length]
          dsimp only
          go_wp2_with (first
            | (at_builtin; go_loud (refine wpList_app3 _ rfl _ _ 27 rfl base 3 j0 (.int .i64 0) 1 8 Tryd.underlying27 HJ.out.1 HJ.out.2.1 HJ.out.2.2.1 HJ.out.2.2.2 rfl (by decide) _ _ _ rfl HL1.out w1.heap.size a1 1 c1 _ rfl (Reads.of_own HO1.out) (ones _) ?c2 ?c3 hbz ?_))
            | fail)
          case c2 => unfold maxLen; omega
          case c3 => omega
          intro a' c' w2 ho2 hg2 hat2 hold2
          rw [← List.map_append, marks_join] at ho2
          have HN := Lib.hid (show GS w w2 S base b k wo.heap.size ks gs (.slice (some ⟨gr, 0, none⟩) ks.length cI) vW (.slice aO k cO) (.slice A n cc) (.slice a' (m + 1) c') n (t + 1) from
            HG2.out.app (by rw [← Nat.add_assoc, ← HMN.out]; exact ho2) hg2 hat2 (by rw [← HMN.out]; exact hold2))
          clear ho2 hg2 hat2 hold2
          go_wp2_with fail
          go_roundw
          case rel => exact ⟨t + 1, m + 1, a', c', by omega, by go_num, by have := HMN.out; omega, rfl, HN.out⟩
          case measure => simp [intOf]; omega
        · obtain rfl : t = 12 := by omega
          go_wp2_with fail
          refine (marks60_any k m _ (by omega) (by omega)).mono ?_
          rintro e w1 ⟨a1, c1, rfl, ho1, hb1⟩
          rw [marks_length] at ho1
          have HG2 := Lib.hid (HG1.out.call hb1)
          have HO1 := Lib.hid ho1
          have hL : w1.ownsRow base 3 1 (.slice al m cl) m ((marks k 0 m).map (.int .i64)) := by rw [HMN.out]; exact (by have := HG2.out.lown; rw [HMN.out] at this; exact this)
          have HL1 := Lib.hid hL
          have hbz : base ≤ w1.heap.size := by have := HG2.out.sz; have := HG2.out.szB; omega
          have HGL := Lib.hid hgl
          have hk250 : k < 250 := by omega
          clear ho1 hb1 hL hgl
          rw [marks_length]
          dsimp only
          go_wp2_with (first
            | (at_builtin; go_loud (refine wpList_app3 _ rfl (.tmp 34) (.tmp 38) 27 rfl base 3 j0 (.int .i64 0) 1 8 Tryd.underlying27 HJ.out.1 HJ.out.2.1 HJ.out.2.2.1 HJ.out.2.2.2 rfl (by decide) _ _ _ rfl HL1.out w1.heap.size a1 60 c1 _ rfl (Reads.of_own HO1.out) (ones _) ?d2 ?d3 hbz ?_))
            | fail)
          case d2 => unfold maxLen; omega
          case d3 => omega
          intro a' c' w2 ho2 hg2 hat2 hold2
          rw [← List.map_append, marks_join] at ho2
          have HN := Lib.hid (show GS w w2 S base b k wo.heap.size ks gs (.slice (some ⟨gr, 0, none⟩) ks.length cI) vW (.slice aO k cO) (.slice A n cc) (.slice a' (m + 60) c') n (12 + 60) from
            HG2.out.app (by rw [← Nat.add_assoc, ← HMN.out]; exact ho2) hg2 hat2 (by rw [← HMN.out]; exact hold2))
          clear ho2 hg2 hat2 hold2
          have HN2 := Lib.hid (HN.out.call ((Below.refl _ _).alloc (Nat.le_refl _) (.cells #[.slice a' (m + 60) c'] 27)))
          have hz2 : w.heap.size ≤ w2.heap.size := by have := HN.out.sz; have := HN.out.szB; omega
          have hoo : (w2.alloc (.cells #[.slice a' (m + 60) c'] 27)).ownsRow w.heap.size 27 1 (.slice aO k cO) k (gs.map Prod.fst) := by have := HN2.out.oO; rwa [HN2.out.len] at this
          have HOO := Lib.hid hoo
          clear hoo
          go_wp2_with (first
            | (at_builtin; go_loud (refine wpList_app _ rfl (.tmp 33) (.tmp 40) 32 rfl w.heap.size 27 i0 (.slice none 0 0) 1 24 Tryd.underlying32 HI.out.1 HI.out.2.1 HI.out.2.2.1 HI.out.2.2.2 rfl (by decide) _ _ _ rfl HOO.out (w2.heap.size + 1) _ 1 1 [.slice a' (m + 60) c'] rfl (Blk.reads (Blk.new w2 _ _) (by simp) rfl rfl (by decide)) ?e1 ?e2 ?e3 ?e4 ?_))
            | fail)
          case e1 => intro u hu; simp at hu; subst hu; rfl
          case e2 => unfold maxLen; omega
          case e3 => omega
          case e4 => simp; omega
          intro a5 c5 w5 ho5 hg5 hat5
          have HF := Lib.hid (HN2.out.next (by have := HMN.out; omega) (by rw [HN2.out.len]; exact ho5) hg5)
          have HO5 := Lib.hid ho5
          have hm12 : m + 60 = n + (12 + 60) := by have := HMN.out; omega
          have HM12 := Lib.hid hm12
          clear ho5 hg5 hat5 hm12
          go_wp2_with fail
          go_roundw
          case rel =>
            obtain ⟨f1, f2, f3, f4, f5, f6⟩ := HF.out
            exact ⟨k + 1, gs ++ [(Value.slice a' (m + 60) c', marks k 0 (n + (12 + 60)))], a5, c5, by omega, by go_num, rfl, by simp; exact HGL.out, f1, f2, by simpa [HGL.out] using HO5.out, f3, (show Marked _ from f4), f5, f6⟩
          case measure => simp [intOf]; omega
    · obtain rfl : k = ks.length := by omega
      have hkk : ¬ (ks.length : Int) < (ks.length : Int) := by omega
      have HF := Lib.hid (show BK wr S base b ks (.slice aI ks.length cI) vW ∧ Kept S w wr ∧ wr.ownsRow w.heap.size 27 1 (.slice aO ks.length cO) gs.length (gs.map Prod.fst) ∧ gs.length = ks.length ∧ Own wr S base gs 100000 ∧ Marked gs from ⟨hbk, hkp, hoO, hgl, hog, hmg⟩)
      clear hbk hkp hoO hgl hog hmg hloc hglt
      go_wp2_with fail
      go_ret
      exact ⟨gs, aO, cO, rfl, HF.out⟩
end Go.Proofs.YtfgpadkoonogpaaDoor.Book
