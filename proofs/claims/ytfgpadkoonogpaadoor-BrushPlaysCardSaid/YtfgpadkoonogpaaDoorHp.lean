/- Package heap: what a heap is in memory; the contracts of none, Find, at. -/
import Derived.Test.YtfgpadkoonogpaaDoorArz
import Derived.Test.YtfgpadkoonogpaaDoorTm
import Derived.Test.YtfgpadkoonogpaaDoorShpC
import Derived.Test.YtfgpadkoonogpaaDoorClz
import Derived.Test.YtfgpadkoonogpaaDoorGn
import Derived.Laws.Rows
import Derived.Deep.CutBlock
import Derived.Deep.CutRange
namespace Go.Proofs.YtfgpadkoonogpaaDoor.Hp
open Go.RowKit Pg Ar Tm
set_option linter.unusedSimpArgs false
set_option linter.unusedVariables false

/-- Where a heap lies: all that turns from block z on; its shapes below, from block y on. -/
structure HB where
  z : Nat
  b : Nat
  ba : Nat
  gp : Nat
  gw : Nat
  bm : Nat
  SA : Option Addr
  cS : Nat
  y : Nat
/-- What a heap is: its pages, its words, what stands where, how many objects and fields there were. -/
structure HS where
  ps : List (Option PM)
  ws : List Int
  M : Nat → Nat → Option Thing
  sr : Int
  gv : Int
def HFoot (B : HB) (σ : HS) (i : Nat) : Prop := i = B.b ∨ i = B.bm ∨ Foot B.ba B.gp B.gw σ.ps i
/-- A list of shapes that lies from block y on, below block z. -/
def RSL (w : World) (y z : Nat) (A : Option Addr) (n c : Nat) (ls : List (List Int)) : Prop := Shp.RS w z A n c ls ∧ ∀ w' : World, (∀ i, y ≤ i → i < z → w'.heap[i]? = w.heap[i]?) → Shp.RS w' z A n c ls
theorem RSL.keep {w w' : World} {y z n c : Nat} {A : Option Addr} {ls : List (List Int)} (h : RSL w y z A n c ls) (hb : ∀ i, y ≤ i → i < z → w'.heap[i]? = w.heap[i]?) : RSL w' y z A n c ls :=
  ⟨h.2 w' hb, fun w'' h' => h.2 w'' fun i h1 h2 => (h' i h1 h2).trans (hb i h1 h2)⟩
/-- What of it stands in memory. -/
structure HpMem (w : World) (B : HB) (ls : List (List Int)) (σ : HS) : Prop where
  blk : Blk w B.b #[.pointer (some ⟨B.ba, 0, none⟩), .slice B.SA ls.length B.cS, .map (some B.bm), .int .i64 σ.sr, .int .i64 σ.gv] 116
  ar : ArenaAt w B.ba B.gp B.gw σ.ps σ.ws
  mp : TMap w B.bm σ.M
  shl : RSL w B.y B.z B.SA ls.length B.cS ls
  new : ∀ i, HFoot B σ i → B.z ≤ i
  yz : B.y ≤ B.z
  len : ∀ l ∈ ls, 1 ≤ l.length ∧ l.length ≤ 16
structure HpAt (w : World) (B : HB) (ls : List (List Int)) (σ : HS) : Prop extends HpMem w B ls σ where
  inv : ∀ k s, (σ.M k s).isSome = true ↔ ∃ p, σ.ps[k]? = some (some p) ∧ p.U.testBit s = true
  fit : ∀ k s t p, σ.M k s = some t → σ.ps[k]? = some (some p) → ∃ l, ls[t.1.toNat]? = some l ∧ 0 ≤ t.1 ∧ Cls.cof l.length = p.c
theorem rs_same {w w' : World} {B n c : Nat} {A : Option Addr} {ls : List (List Int)} (h : Shp.RS w B A n c ls) (hb : ∀ i, i < B → w'.heap[i]? = w.heap[i]?) : Shp.RS w' B A n c ls := by
  refine ⟨h.1, h.2.1, h.2.2.1, fun i l hl => ?_⟩
  obtain ⟨b, off, A', c', h1, h2, h3, h4, h5⟩ := h.2.2.2 i l hl
  exact ⟨b, off, A', c', h1, h2, (World.cell?_of_block (hb b h2)).trans h3, ⟨h4.1, h4.2.keep fun b o hlt => World.cell?_of_block (hb b hlt)⟩, h5⟩
namespace HpMem
variable {w w' : World} {B : HB} {ls : List (List Int)} {σ : HS}
theorem sh (h : HpMem w B ls σ) : Shp.RS w B.z B.SA ls.length B.cS ls := h.shl.1
theorem lt (h : HpMem w B ls σ) {i : Nat} (hi : HFoot B σ i) : i < w.heap.size := by
  rcases hi with rfl | rfl | hi
  · exact h.blk.lt
  · exact h.mp.lt
  · exact h.ar.lt hi
theorem keep (h : HpMem w B ls σ) (hb : ∀ i, HFoot B σ i ∨ (B.y ≤ i ∧ i < B.z) → w'.heap[i]? = w.heap[i]?) : HpMem w' B ls σ :=
  { h with
    blk := (hb _ (.inl (.inl rfl))).trans h.blk
    ar := h.ar.keep fun i hi => hb i (.inl (.inr (.inr hi)))
    mp := h.mp.block (hb _ (.inl (.inr (.inl rfl))))
    shl := h.shl.keep fun i h1 h2 => hb i (.inr ⟨h1, h2⟩) }
theorem z_lt (h : HpMem w B ls σ) : B.z < w.heap.size := Nat.lt_of_le_of_lt (h.new _ (.inl rfl)) h.blk.lt
theorem call (h : HpMem w B ls σ) (hb : Below w.heap.size w w') : HpMem w' B ls σ := h.keep fun i hi => hb.block i (by
  rcases hi with hi | hi
  · exact h.lt hi
  · have := h.z_lt; omega)
theorem drewN (h : HpMem w B ls σ) (k : Nat) : HpMem (w.drewN k) B ls σ := h.keep fun _ _ => rfl
theorem five (h : HpMem w B ls σ) : w.cell? ⟨B.b, 0, none⟩ = some (.pointer (some ⟨B.ba, 0, none⟩)) ∧ w.cell? ⟨B.b, 1, none⟩ = some (.slice B.SA ls.length B.cS) ∧ w.cell? ⟨B.b, 2, none⟩ = some (.map (some B.bm)) ∧ w.cell? ⟨B.b, 3, none⟩ = some (.int .i64 σ.sr) ∧ w.cell? ⟨B.b, 4, none⟩ = some (.int .i64 σ.gv) :=
  ⟨h.blk.cell 0, h.blk.cell 1, h.blk.cell 2, h.blk.cell 3, h.blk.cell 4⟩
end HpMem
namespace HpAt
variable {w w' : World} {B : HB} {ls : List (List Int)} {σ : HS}
theorem sh (h : HpAt w B ls σ) : Shp.RS w B.z B.SA ls.length B.cS ls := h.shl.1
theorem lt (h : HpAt w B ls σ) {i : Nat} (hi : HFoot B σ i) : i < w.heap.size := h.toHpMem.lt hi
theorem keep (h : HpAt w B ls σ) (hb : ∀ i, HFoot B σ i ∨ (B.y ≤ i ∧ i < B.z) → w'.heap[i]? = w.heap[i]?) : HpAt w' B ls σ := ⟨h.toHpMem.keep hb, h.inv, h.fit⟩
theorem z_lt (h : HpAt w B ls σ) : B.z < w.heap.size := h.toHpMem.z_lt
theorem call (h : HpAt w B ls σ) (hb : Below w.heap.size w w') : HpAt w' B ls σ := ⟨h.toHpMem.call hb, h.inv, h.fit⟩
theorem drewN (h : HpAt w B ls σ) (k : Nat) : HpAt (w.drewN k) B ls σ := h.keep fun _ _ => rfl
theorem kept {S : Nat → Prop} (h : HpAt w B ls σ) (hk : Kept S w w') (hS : ∀ i, HFoot B σ i ∨ (B.y ≤ i ∧ i < B.z) → ¬ S i) : HpAt w' B ls σ := h.keep fun i hi => hk.block i (by
  rcases hi with hi | hi
  · exact h.lt hi
  · have := h.z_lt; omega) (hS i hi)
theorem five (h : HpAt w B ls σ) : w.cell? ⟨B.b, 0, none⟩ = some (.pointer (some ⟨B.ba, 0, none⟩)) ∧ w.cell? ⟨B.b, 1, none⟩ = some (.slice B.SA ls.length B.cS) ∧ w.cell? ⟨B.b, 2, none⟩ = some (.map (some B.bm)) ∧ w.cell? ⟨B.b, 3, none⟩ = some (.int .i64 σ.sr) ∧ w.cell? ⟨B.b, 4, none⟩ = some (.int .i64 σ.gv) :=
  ⟨h.blk.cell 0, h.blk.cell 1, h.blk.cell 2, h.blk.cell 3, h.blk.cell 4⟩
end HpAt
theorem none_any (B : HB) (ls : List (List Int)) (σ : HS) (w : World) (h : HpAt w B ls σ) :
    Calls Tryd.prog 74 #[.pointer (some ⟨B.b, 0, none⟩)] w fun e w' => e = .returned (.bool false) ∧ w = w' := by
  obtain ⟨c0, c1, c2, c3, c4⟩ := h.five
  clear h
  go_enter Tryd.func74, Tryd.ntmps74
  go_wp2_with fail
  go_ret
  exact ⟨rfl, rfl⟩
theorem find_any (B : HB) (ls : List (List Int)) (σ : HS) (v : Int) (w : World) (h : HpAt w B ls σ) (hv : v ≤ 9223372036854775807) :
    Calls Tryd.prog 100 #[.pointer (some ⟨B.b, 0, none⟩), .int .i64 v] w fun e w' => e = .returned (.tuple #[.int .i64 (fbase σ.ps v), .bool (slot σ.ps v).isSome]) ∧ ∃ n, w' = w.drewN n := by
  obtain ⟨c0, c1, c2, c3, c4⟩ := h.five
  have H := Lib.hid h
  clear h
  go_enter Tryd.func100, Tryd.ntmps100
  go_wp2_with fail
  refine (none_any B ls σ _ H.out).mono ?_
  rintro e w1 ⟨rfl, rfl⟩
  dsimp only
  go_wp2_with fail
  refine (Ar.find_any _ _ _ _ _ v _ H.out.ar hv).mono ?_
  rintro e w1 ⟨rfl, d, rfl⟩
  dsimp only
  go_wp2_with fail
  go_ret2
  exact ⟨rfl, d, rfl⟩
/-- The place at which an object begins. -/
def hat (σ : HS) (addr : Int) : Option (Nat × Nat) := match slot σ.ps addr with | none => none | some (k, _, s) => if base σ.ps k s = addr then some (k, s) else none
def atv : Option (Nat × Nat) → Value
  | none => .tuple #[.agg #[.int .i64 0, .int .i64 0], .bool false]
  | some (k, s) => .tuple #[.agg #[.int .i64 k, .int .i64 s], .bool true]
/-- What it means that an object begins somewhere. -/
theorem hat_some {w : World} {B : HB} {ls : List (List Int)} {σ : HS} (h : HpAt w B ls σ) {addr : Int} {k s : Nat} (e : hat σ addr = some (k, s)) :
    ∃ (p : PM) (z f g : Nat), slot σ.ps addr = some (k, p, s) ∧ fbase σ.ps addr = addr ∧ σ.ps[k]? = some (some p) ∧ p.U.testBit s = true ∧ s < p.n ∧ Cls.csz p.c = (z : Int) ∧ 0 < z ∧ z ≤ 16 ∧ get σ.ps (k : Int) = some p ∧ k < 64 ∧ s < 32 ∧
      g = s * z ∧ f = 32 * k + g ∧ addr - 1048576 = (f : Int) ∧ (f : Int) / 32 = (k : Int) ∧ (f : Int) - (k : Int) * 32 = (g : Int) ∧ (g : Int) / (z : Int) = (s : Int) ∧ (g : Int) < Cls.csl p.c * Cls.csz p.c ∧ g < 32 ∧ f < 2048 ∧ (σ.M k s).isSome = true := by
  unfold hat at e
  rcases hs : slot σ.ps addr with _ | ⟨k', p, s'⟩
  · rw [hs] at e; cases e
  rw [hs] at e
  dsimp only at e
  split at e
  · rename_i hb
    have e := Option.some.inj e
    injection e with e1 e2
    subst e1 e2
    obtain ⟨h1, h2, h3, h4, h5, h6, h7, h8, h9⟩ := slot_some h.ar hs
    obtain ⟨z, hz⟩ : ∃ z : Nat, Cls.csz p.c = (z : Int) := ⟨(Cls.csz p.c).toNat, by omega⟩
    have hpg := h.ar.page _ p h1
    have hn := hpg.1.hn
    have hk := (List.getElem?_eq_some_iff.1 h1).1
    have hk2 := h.ar.hn
    have hfit := fit (c := p.c) (n := p.n) (s := s') hpg.2 hz h3
    have hzb := Cls.csz_bd p.c
    rw [hz] at h9 h6 hzb
    have e9 : addr = 1048576 + (k' : Int) * 32 + (s' : Int) * (z : Int) := by rw [← hb, h9]
    have hg : ((s' * z : Nat) : Int) = (s' : Int) * (z : Int) := by simp
    refine ⟨p, z, 32 * k' + s' * z, s' * z, rfl, by unfold fbase; rw [hs]; exact hb, h1, h2, h3, hz, by omega, by omega, h8, by omega, by omega, rfl, rfl, by omega, by omega, by omega, ?_, ?_, by omega, by omega, (h.inv _ _).2 ⟨p, h1, h2⟩⟩
    · rw [hg]
      exact Int.mul_ediv_cancel _ (by omega)
    · rw [hpg.2, hz, hg]
      exact Int.mul_lt_mul_of_pos_right (by omega) (by omega)
  · cases e
theorem results_cell2 {fn : Func} {t u : Tmp} {ty : TypeId} (h : fn.results = #[.cell t ty, .tmp u]) (tmps : Array Value) (P : Program) (w : World) (b : Nat) (cs : Array Value) (fs : Array Field) (hb : Blk w b cs ty) (hu : P.underlying ty = some (.struct fs))
    (hi : (P.info? ty).map (·.size) = some cs.size) (ht : tmps.getD t undef = .pointer (some ⟨b, 0, none⟩)) :
    (results fn tmps).run P w = .ok (.tuple #[.agg cs, tmps.getD u undef]) w := by
  have := run_loadVar_row w b ty ty cs (0, 0) (.struct fs) hb hu rfl hi
  have ht' : tmps[t]?.getD undef = .pointer (some ⟨b, 0, none⟩) := by simpa using ht
  simp [results, h, ht', this, asAddr, Result.andThen]
theorem place_cells {w W : World} {k s : Int} {d : Nat} (hW : W = (w.alloc (.cells #[.int .i64 0, .int .i64 0] 121)).drewN d) :
    Blk ((W.setCell ⟨w.heap.size, 0, none⟩ (.int .i64 k)).setCell ⟨w.heap.size, 1, none⟩ (.int .i64 s)) w.heap.size #[.int .i64 k, .int .i64 s] 121 ∧ Below w.heap.size w ((W.setCell ⟨w.heap.size, 0, none⟩ (.int .i64 k)).setCell ⟨w.heap.size, 1, none⟩ (.int .i64 s)) := by
  subst hW
  exact ⟨Blk.of_eq (((((Blk.new w _ _).drewN d).set 0 _).set 1 _)) rfl, ((below_drewN (fresh_alloc (Below.refl _ _) _) d).setCell (Nat.le_refl _) _).setCell (Nat.le_refl _) _⟩
set_option maxRecDepth 100000 in
theorem at_any (B : HB) (ls : List (List Int)) (σ : HS) (addr : Int) (w : World) (h : HpAt w B ls σ) (ha : addr ≤ 9223372036854775807) :
    Calls Tryd.prog 77 #[.pointer (some ⟨B.b, 0, none⟩), .int .i64 addr] w fun e w' => e = .returned (atv (hat σ addr)) ∧ Below w.heap.size w w' := by
  obtain ⟨c0, c1, c2, c3, c4⟩ := h.five
  have H := Lib.hid h
  rcases hh : hat σ addr with _ | ⟨k, s⟩
  · clear h
    rcases hs : slot σ.ps addr with _ | ⟨k', p', s'⟩
    · have HF := Lib.hid hs
      clear hs hh
      go_enter Tryd.func77, Tryd.ntmps77
      go_wp2_with fail
      refine (find_any B ls σ addr _ (H.out.call (fresh_alloc (Below.refl _ _) _)) ha).mono ?_
      rw [HF.out]
      rintro e w1 ⟨rfl, d, rfl⟩
      dsimp only
      go_wp2_with fail
      obtain ⟨h1, h2⟩ := place_cells (w := w) (k := 0) (s := 0) (d := d) rfl
      refine bodyPost_ret (results_cell2 rfl _ _ _ _ _ _ h1 Tryd.underlying121 (by kernel_rfl) rfl) rfl ?_
      exact ⟨rfl, h2⟩
    · have hb : (fbase σ.ps addr != addr) = true := by
        unfold fbase
        unfold hat at hh
        rw [hs] at hh ⊢
        dsimp only at hh ⊢
        split at hh
        · cases hh
        · simpa using ‹_›
      have HF := Lib.hid (show (slot σ.ps addr).isSome = true by rw [hs]; rfl)
      clear hs hh
      obtain ⟨q, hq⟩ : ∃ q, fbase σ.ps addr = q := ⟨_, rfl⟩
      have HQ := Lib.hid hq
      rw [hq] at hb
      clear hq
      go_enter Tryd.func77, Tryd.ntmps77
      go_wp2_with fail
      refine (find_any B ls σ addr _ (H.out.call (fresh_alloc (Below.refl _ _) _)) ha).mono ?_
      rw [HF.out, HQ.out]
      rintro e w1 ⟨rfl, d, rfl⟩
      dsimp only
      go_wp2_with fail
      obtain ⟨h1, h2⟩ := place_cells (w := w) (k := 0) (s := 0) (d := d) rfl
      refine bodyPost_ret (results_cell2 rfl _ _ _ _ _ _ h1 Tryd.underlying121 (by kernel_rfl) rfl) rfl ?_
      exact ⟨rfl, h2⟩
  · obtain ⟨p, z, f, g, h1, h2, h3, h4, h5, h6, h7, h8, h9, h10, h11, h12, h13, h14, h15, h16, h17, h18, h19, h20, h21⟩ := hat_some h hh
    have HF := Lib.hid (show (slot σ.ps addr).isSome = true by rw [h1]; rfl)
    have HQ := Lib.hid h2
    have HG := Lib.hid h9
    have HZ := Lib.hid h6
    have HC := Lib.hid h18
    have HD := Lib.hid h17
    have HM := Lib.hid h21
    have HK := Lib.hid h10
    have HS2 := Lib.hid h11
    have HPG := Lib.hid (H.out.ar.page k p h3).1
    have HX := Lib.hid h14
    have HX2 := Lib.hid h15
    have HX3 := Lib.hid h16
    have hfb : (f : Int) < 2048 := by omega
    clear h h1 h2 h3 h4 h5 h6 h7 h8 h9 h10 h11 h12 h13 h14 h15 h16 h17 h18 h19 h20 h21 hh
    go_enter Tryd.func77, Tryd.ntmps77
    go_wp2_with fail
    refine (find_any B ls σ addr _ (H.out.call (fresh_alloc (Below.refl _ _) _)) ha).mono ?_
    rw [HF.out, HQ.out]
    rintro e w1 ⟨rfl, d, rfl⟩
    dsimp only
    have hx := HX.out
    have hbl := H.out.blk.lt
    go_wp2_with (simp only [hx])
    clear hx
    have hd := HX2.out
    rw [hd]
    have H1 := Lib.hid (H.out.call (w' := (w.alloc (.cells #[.int .i64 0, .int .i64 0] 121)).drewN d) (below_drewN (fresh_alloc (Below.refl _ _) _) d))
    refine (page_any _ _ _ _ _ _ _ H1.out.ar).mono ?_
    rw [HG.out]
    rintro e w1 ⟨rfl, rfl⟩
    dsimp only [ptr]
    go_wp2_with fail
    have HP1 := Lib.hid (HPG.out.call (w' := (w.alloc (.cells #[.int .i64 0, .int .i64 0] 121)).drewN d) (below_drewN (fresh_alloc (Below.refl _ _) _) d))
    refine (class_any _ _ _ _ _ _ HP1.out).mono ?_
    rintro e w1 ⟨rfl, rfl⟩
    dsimp only
    have hx := HX.out
    have hx3 := HX3.out
    have hk64 : (k : Int) < 64 := by have := HK.out; omega
    have hg0 : (g : Int) < 32 := by omega
    go_wp2_with (first | simp only [hx] | simp only [hx3])
    clear hx hx3
    refine (Cls.slot_in _ _ _ (by omega) HC.out).mono ?_
    rw [HZ.out, HD.out]
    rintro e w1 ⟨rfl, rfl⟩
    dsimp only
    go_wp2_with fail
    obtain ⟨W, hW⟩ : ∃ W, ((w.alloc (.cells #[.int .i64 0, .int .i64 0] 121)).drewN d).alloc (.cells #[.int .i64 k, .int .i64 s] 121) = W := ⟨_, rfl⟩
    have hB1 : Blk W w.heap.size #[.int .i64 0, .int .i64 0] 121 := by rw [← hW]; exact ((Blk.new w _ _).drewN d).alloc _
    have hB2 : Blk W (w.heap.size + 1) #[.int .i64 k, .int .i64 s] 121 := by
      rw [← hW]
      have := Blk.new ((w.alloc (.cells #[.int .i64 0, .int .i64 0] 121)).drewN d) #[.int .i64 k, .int .i64 s] 121
      simpa using this
    have hbel : Below w.heap.size w W := by rw [← hW]; exact (below_drewN (fresh_alloc (Below.refl _ _) _) d).alloc (by simp) _
    rw [hW]
    clear hW H1 HP1
    have H2 := Lib.hid (H.out.call hbel)
    have HB1 := Lib.hid hB1
    have HBE := Lib.hid hbel
    obtain ⟨d0, d1, -, -⟩ := hB2.two
    obtain ⟨e0, e1, e2, e3, e4⟩ := H2.out.five
    have l0 := H2.out.blk.lt
    have l1 := hB2.lt
    have hlk : ∀ x : Ext W, (Instr.lookup 114 (.map (some B.bm)) (.agg #[.int .i64 k, .int .i64 s]) true).run Tryd.prog x.w = .ok (.tuple #[tv ((σ.M k s).getD (0, 0, 0)), .bool true]) x.w := fun x => by
      have := (H2.out.mp.block (x.below.block _ H2.out.mp.lt)).look_ok HK.out HS2.out
      rw [HM.out] at this
      exact this
    clear hB1 hB2 hbel c0 c1 c2 c3 c4
    refine Ext.region W (by kernel_rfl) (by kernel_rfl) (Below.refl _ _) ?_
    repeat (first | (go_big_quiet_step (fail)) | (rw [hlk]))
    refine wpQuiet_nil ?_
    rintro _ ⟨x, rfl⟩
    have HB3 := Lib.hid (HB1.out.call x.below)
    have HBX := Lib.hid (fresh_call HBE.out x.below)
    obtain ⟨g0, g1, g2, g3⟩ := HB3.out.two
    clear hlk
    go_wp2_with fail
    have h1 := Blk.of_eq ((HB3.out.set 0 (.int .i64 k)).set 1 (.int .i64 s)) (cs' := #[.int .i64 k, .int .i64 s]) rfl
    refine bodyPost_ret (results_cell2 rfl _ _ _ _ _ _ h1 Tryd.underlying121 (by kernel_rfl) rfl) rfl ?_
    exact ⟨rfl, (HBX.out.setCell (p := ⟨w.heap.size, 0, none⟩) (Nat.le_refl _) _).setCell (Nat.le_refl _) _⟩
end Go.Proofs.YtfgpadkoonogpaaDoor.Hp
