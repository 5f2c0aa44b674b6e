/- Package besombook: the contract of Ints. -/
import Derived.Test.YtfgpadkoonogpaaDoorBook2
import Derived.Deep.CutBlock
import Derived.Deep.CutRange
namespace Go.Proofs.YtfgpadkoonogpaaDoor.Book
open Go.RowKit
set_option linter.unusedSimpArgs false
set_option linter.unusedVariables false

/-- One more list is kept, or there are enough. -/
def IntsPost (w : World) (S : Nat → Prop) (base b : Nat) (ks ms : List KL) (p : KL) (e : Ending) (w' : World) : Prop :=
  e = .returned (.tuple #[]) ∧ Kept S w w' ∧ KeepsInts w w' ∧ ∃ (ks' ms' : List KL) (vI' vW' : Value), BookAt w' S base b ks' ms' vI' vW' ∧ ((ks' = ks ∧ ms' = ms) ∨ ∃ v', ks' = ks ++ [p] ∧ ms' = ms ++ [(v', p.2)])
set_option maxRecDepth 100000 in
theorem ints_full (w : World) (S : Nat → Prop) (base b : Nat) (ks ms : List KL) (vI vW : Value) (p : KL) (A : Option Addr) (n c : Nat) (h : BookAt w S base b ks ms vI vW) (hf : 250 ≤ ks.length) :
    Calls Tryd.prog 16 #[.pointer (some ⟨b, 0, none⟩), .slice A n c] w (IntsPost w S base b ks ms p) := by
  obtain ⟨aI, cI, rfl⟩ := slice_form h.oI
  have c0 := h.blk.cell 0
  have f0 := h.blk.free 0
  simp at c0
  have hl : (250 : Int) ≤ (ks.length : Int) := by omega
  have hl2 : (ks.length : Int) ≤ 250 := by have := h.few; omega
  have H := Lib.hid h
  clear h hf
  go_enter Tryd.func16, Tryd.ntmps16
  go_wp2_with fail
  go_end0
  exact ⟨rfl, Kept.refl _ _, KeepsInts.refl _, ks, ms, _, _, H.out, .inl ⟨rfl, rfl⟩⟩
set_option maxRecDepth 100000 in
set_option maxHeartbeats 1000000 in
theorem ints_any (w : World) (S : Nat → Prop) (base b : Nat) (ks ms : List KL) (vI vW : Value) (A : Option Addr) (c : Nat) (xs : List Int) (h : BookAt w S base b ks ms vI vW) (hlen : ms.length = ks.length)
    (hS : ∀ k, w.heap.size ≤ k → S k) (hv : w.ownsRow base 3 1 (.slice A xs.length c) xs.length (xs.map (.int .i64))) (hx : xs.length ≤ 99000) (hvS : ∀ k, (Value.slice A xs.length c).ownBlock = some k → S k)
    (hsep : ∀ p ∈ ks, ∀ k, p.1.ownBlock = some k → (Value.slice A xs.length c).ownBlock ≠ some k) (hbase : base ≤ w.heap.size) :
    Calls Tryd.prog 16 #[.pointer (some ⟨b, 0, none⟩), .slice A xs.length c] w (IntsPost w S base b ks ms (.slice A xs.length c, xs)) := by
  by_cases hfull : 250 ≤ ks.length
  · exact ints_full w S base b ks ms vI vW _ A _ c h hfull
  obtain ⟨i0, hi0, hz0, hz1, hz2⟩ := info_parts infoL
  have HI := Lib.hid (⟨hi0, hz0, hz1, hz2⟩ : Tryd.prog.info? 27 = some i0 ∧ i0.zero = some (.slice none 0 0) ∧ i0.size = 1 ∧ i0.bytes = 24)
  clear hi0 hz0 hz1 hz2
  obtain ⟨aI, cI, rfl⟩ := slice_form h.oI
  obtain ⟨aW, cW, rfl⟩ := slice_form h.oW
  have c0 := h.blk.cell 0
  have f0 := h.blk.free 0
  simp at c0
  have hl : (ks.length : Int) < 250 := by omega
  have hms : ms.length < 250 := by omega
  have HLen := Lib.hid hlen
  have HS := Lib.hid hS
  have HV := Lib.hid hv
  have HVS := Lib.hid hvS
  have HSEP := Lib.hid hsep
  have hb0 := h.blk.lt
  have HX := Lib.hid hx
  have HFu := Lib.hid hfull
  have H := Lib.hid h
  clear h hlen hS hv hvS hsep hfull
  go_enter Tryd.func16, Tryd.ntmps16
  go_wp2_with (first
    | (at_builtin; go_loud (refine wpList_app _ rfl (.tmp 14) (.tmp 16) 32 rfl base 27 i0 (.slice none 0 0) 1 24 Tryd.underlying32 HI.out.1 HI.out.2.1 HI.out.2.2.1 HI.out.2.2.2 rfl (by decide) _ _ _ rfl (H.out.oI.alloc _) (w.heap.size + 1) _ 1 1 [.slice A xs.length c] rfl (Blk.reads (Blk.new w _ _) (by simp) rfl rfl (by decide)) ?c1 ?c2 ?c3 ?c4 ?_))
    | fail)
  case c1 => intro u hu; simp at hu; subst hu; rfl
  case c2 => unfold maxLen; omega
  case c3 => omega
  case c4 => simp; omega
  intro a' c' w2 ho2 hg2 hat2
  have hb2 : Blk w2 b _ _ := blk_row (H.out.blk.alloc _) hg2 H.out.neI
  have d0 := hb2.cell 0
  have e0 := hb2.free 0
  have hz2 := hg2.size
  have hd2 : b < w2.heap.size := hb2.lt
  simp at d0
  have hK2 : Kept S w w2 := (Kept.of_below ((Below.refl _ _).alloc (Nat.le_refl _) _) S).step (kept_grown (S := S) hg2 H.out.sI) (fun _ _ h => h)
  have H2 := (H.out.call ((Below.refl _ _).alloc (Nat.le_refl _) (.cells #[.slice A xs.length c] 27))).addI (fun k hk => HS.out k (by simp at hk; omega)) (.slice A xs.length c) xs (HV.out.alloc _) HX.out HVS.out HSEP.out (by have := HFu.out; omega) ho2 hg2 (by rw [World.size_alloc]; exact hat2)
  have HK := Lib.hid (hK2.set (p := ⟨b, 0, none⟩) (.inl H.out.sb) (.slice a' (ks.length + 1) c'))
  have H3 := Lib.hid H2
  have HKI := Lib.hid (((KeepsInts.below ((Below.refl _ _).alloc (Nat.le_refl _) (.cells #[.slice A xs.length c] 27))).trans (KeepsInts.grown hg2 (H.out.oI.alloc _) (by decide))).trans (KeepsInts.set hb2 (by decide) 0 (.slice a' (ks.length + 1) c')))
  have HV3 := Lib.hid (show (w2.setCell ⟨b, 0, none⟩ (.slice a' (ks.length + 1) c')).ownsRow base 3 1 (.slice A xs.length c) xs.length (xs.map (.int .i64)) from (HV.out.alloc _ |> fun h => own_keep_grown h hg2 (fun k e e2 => own_vs HV.out H.out.oI (by decide) e e2)) |> fun h => own_block h fun k e => Below.heap_setCell w2 ⟨b, 0, none⟩ _ k (fun e2 => by subst e2; exact own_ne HV.out H.out.blk (by decide) e.symm))
  have HS3 := Lib.hid (fun k (hk : (w2.setCell ⟨b, 0, none⟩ (.slice a' (ks.length + 1) c')).heap.size ≤ k) => HS.out k (by simp [World.setCell] at hk; have := hg2.size; simp at this; omega))
  have hbase3 : base ≤ (w2.setCell ⟨b, 0, none⟩ (.slice a' (ks.length + 1) c')).heap.size := by simp [World.setCell]; have := hg2.size; simp at this; omega
  clear ho2 hat2 hg2 hb2 hK2 H2
  go_upto_region 2 with (fail)
  generalize w2.setCell ⟨b, 0, none⟩ (.slice a' (ks.length + 1) c') = w3 at *
  clear d0 e0 hz2 hd2 c0 f0
  have c0 := H3.out.blk.cell 0
  have c1 := H3.out.blk.cell 1
  have f1 := H3.out.blk.free 1
  simp at c0 c1
  have HRI := Lib.hid (show RI w3.drew w3.heap.size A xs.length c xs from ⟨rfl, Reads.of_own (HV3.out)⟩)
  have hx2 : xs.length ≤ 1000000 := by omega
  have hbz : b < w3.heap.size := H3.out.blk.lt
  go_region_law (first
    | (go_simp; go_at_call 51; refine (copy_any _ _ _ _ _ _ HRI.out hx2).mono ?_; rintro e w4 ⟨a4, c4, rfl, ho4, hb4⟩; have H4 := Lib.hid ((H3.out.drewN 1).call hb4); have HO4 := Lib.hid ho4; have HO4B := Lib.hid (own_base ho4 hbase3); have HB4 := Lib.hid hb4; have q1 := H4.out.blk.cell 1; simp at q1; have q2 : b < w4.heap.size := H4.out.blk.lt; have z6 : w3.heap.size ≤ w4.heap.size := hb4.size; have z4 : base ≤ w4.heap.size := Nat.le_trans hbase3 hb4.size; clear ho4 hb4; dsimp only)
    | (refine step_app _ rfl (.tmp 24) (.tmp 27) 32 rfl base 27 i0 (.slice none 0 0) 1 24 Tryd.underlying32 HI.out.1 HI.out.2.1 HI.out.2.2.1 HI.out.2.2.2 rfl (by decide) (.slice aW ms.length cW) ms.length (ms.map Prod.fst) (by simp [Act.eval, Act.put]) (H4.out.oW.alloc _) (w4.heap.size + 1) (some ⟨w4.heap.size, 0, none⟩) 1 1 [.slice a4 xs.length c4] (by simp [Act.eval, Act.put]) (Blk.reads (Blk.new w4 _ _) (by simp) rfl rfl (by decide)) (by intro u hu; simp at hu; subst hu; rfl) (by unfold maxLen; omega) (by omega) (by simp; omega) ?_; intro a5 c5 w5 ho5 hg5 hat5; have hb5 := blk_row (H4.out.blk.alloc _) hg5 H4.out.neW; have d1 := hb5.cell 1; have e1 := hb5.free 1; have z5 := hg5.size))
  all_goals
    have H5 := Lib.hid ((H4.out.call ((Below.refl _ _).alloc (Nat.le_refl _) (.cells #[.slice a4 xs.length c4] 27))).addW (fun k hk => HS3.out k (by simp at hk; omega)) (.slice a4 xs.length c4) xs (HO4B.out.alloc _) HX.out (fun k e => HS3.out k (HO4.out.lt k e).1) hms ho5 hg5 hat5)
    have HK5 := Lib.hid (((HK.out.step (Kept.of_below (below_drew1 HB4.out) S) (fun _ _ h => h)).step ((Kept.of_below ((Below.refl _ _).alloc (Nat.le_refl _) _) S).step (kept_grown (S := S) hg5 H4.out.sW) (fun _ _ h => h)) (fun _ _ h => h)).set (p := ⟨b, 1, none⟩) (.inl H3.out.sb) (.slice a5 (ms.length + 1) c5))
    have HKI5 := Lib.hid (((HKI.out.trans (KeepsInts.below (below_drew1 HB4.out))).trans ((KeepsInts.below ((Below.refl _ _).alloc (Nat.le_refl _) (.cells #[.slice a4 xs.length c4] 27))).trans (KeepsInts.grown hg5 (H4.out.oW.alloc _) (by decide)))).trans (KeepsInts.set hb5 (by decide) 1 (.slice a5 (ms.length + 1) c5)))
    go_end0
    exact ⟨rfl, HK5.out, HKI5.out, _, _, _, _, H5.out, .inr ⟨_, rfl, rfl⟩⟩
end Go.Proofs.YtfgpadkoonogpaaDoor.Book
