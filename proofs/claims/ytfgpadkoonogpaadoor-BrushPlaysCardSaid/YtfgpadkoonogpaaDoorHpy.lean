/- Package heap: the contract of Object. Package heap: where a slot's address leads; what a sweep does, in plain words. Package heap: the contract of SweepPage. Package heap: the contract of New. Package heap: where its objects begin (Arena.All); the contract of Greys. Package heap: the contract of Objects. A heap of the call's own; what Alloc and Fresh have done, told from what was there. Package heap: how many objects there are (plain). -/
import Derived.Test.YtfgpadkoonogpaaDoorHpz
import Derived.Test.YtfgpadkoonogpaaDoorGn
import Derived.Test.YtfgpadkoonogpaaDoorBook2
namespace Go.Proofs.YtfgpadkoonogpaaDoor.Hp
open Go.RowKit Pg Ar Tm
set_option linter.unusedSimpArgs false
set_option linter.unusedVariables false

/-- The words of an object's fields. -/
def flds (ls : List (List Int)) (σ : HS) (addr : Int) (k s : Nat) : List Int := (List.range (nfl ls σ k s)).map fun (i : Nat) => σ.ws.getD (addr + (i : Int) - 1048576).toNat 0
theorem flds_len (ls : List (List Int)) (σ : HS) (addr : Int) (k s : Nat) : (flds ls σ addr k s).length = nfl ls σ k s := by simp [flds]
def ObjIs (ls : List (List Int)) (σ : HS) (addr : Int) (w : World) (e : Ending) (w' : World) : Prop :=
  (hat σ addr = none ∧ e = .returned (.tuple #[.agg #[.int .i64 0, .int .i64 0, .int .i64 0, .slice none 0 0, .bool false], .bool false]) ∧ Below w.heap.size w w') ∨
  (∃ (k s : Nat) (t : Thing) (a : Option Addr) (c : Nat), hat σ addr = some (k, s) ∧ σ.M k s = some t ∧ e = .returned (.tuple #[.agg #[.int .i64 addr, .int .i64 t.1, .int .i64 t.2.1, .slice a (nfl ls σ k s) c, .bool (t.2.2 != 0)], .bool true]) ∧
    w'.ownsRow w.heap.size 3 1 (.slice a (nfl ls σ k s) c) (nfl ls σ k s) ((flds ls σ addr k s).map (.int .i64)) ∧ Below w.heap.size w w')
set_option maxRecDepth 100000 in
set_option maxHeartbeats 1000000 in
theorem object_none (B : HB) (ls : List (List Int)) (σ : HS) (addr : Int) (w : World) (h : HpAt w B ls σ) (ha : addr ≤ 9223372036854775807) (hh : hat σ addr = none) :
    Calls Tryd.prog 30 #[.pointer (some ⟨B.b, 0, none⟩), .int .i64 addr] w (ObjIs ls σ addr w) := by
  have H := Lib.hid h
  have H1 := Lib.hid (h.call (fresh_alloc (Below.refl _ _) (.cells #[.int .i64 0, .int .i64 0, .int .i64 0, .slice none 0 0, .bool false] 68)))
  have HR := Lib.hid (Blk.new w #[.int .i64 0, .int .i64 0, .int .i64 0, .slice none 0 0, .bool false] 68)
  have HBE := Lib.hid (fresh_alloc (Below.refl w.heap.size w) (.cells #[.int .i64 0, .int .i64 0, .int .i64 0, .slice none 0 0, .bool false] 68))
  have HH := Lib.hid hh
  clear h hh
  go_enter Tryd.func30, Tryd.ntmps30
  go_wp2_with fail
  refine (at_any B ls σ addr _ H1.out ha).mono ?_
  rw [HH.out]
  rintro e w1 ⟨rfl, hb⟩
  have HR1 := Lib.hid (HR.out.call hb)
  have HB1 := Lib.hid (fresh_call HBE.out hb)
  clear hb
  have l4 := HR1.out.lt
  have r0 := HR1.out.free 0
  have r1 := HR1.out.free 1
  have r2 := HR1.out.free 2
  have r3 := HR1.out.free 3
  have r4 := HR1.out.free 4
  have q0 : w1.cell? ⟨w.heap.size, 0, none⟩ = some (.int .i64 0) := HR1.out.cell 0
  have q1 : w1.cell? ⟨w.heap.size, 1, none⟩ = some (.int .i64 0) := HR1.out.cell 1
  have q2 : w1.cell? ⟨w.heap.size, 2, none⟩ = some (.int .i64 0) := HR1.out.cell 2
  have q3 : w1.cell? ⟨w.heap.size, 3, none⟩ = some (.slice none 0 0) := HR1.out.cell 3
  have q4 : w1.cell? ⟨w.heap.size, 4, none⟩ = some (.bool false) := HR1.out.cell 4
  dsimp only [atv]
  go_wp2_with fail
  have hr := Blk.of_eq ((((((HR1.out.set 0 (.int .i64 0)).set 1 (.int .i64 0)).set 2 (.int .i64 0)).set 3 (.slice none 0 0)).set 4 (.bool false)).alloc (.cells #[.int .i64 0, .int .i64 0] 121)) (cs' := #[.int .i64 0, .int .i64 0, .int .i64 0, .slice none 0 0, .bool false]) rfl
  try simp only [Exit.inBlock, Exit.then]
  refine bodyPost_ret (results_cell2 rfl _ _ _ _ _ _ hr Tryd.underlying68 (by kernel_rfl) rfl) rfl ?_
  exact Or.inl ⟨HH.out, rfl, fresh_alloc (((((HB1.out.setCell (p := ⟨w.heap.size, 0, none⟩) (Nat.le_refl _) _).setCell (p := ⟨w.heap.size, 1, none⟩) (Nat.le_refl _) _).setCell (p := ⟨w.heap.size, 2, none⟩) (Nat.le_refl _) _).setCell (p := ⟨w.heap.size, 3, none⟩) (Nat.le_refl _) _).setCell (p := ⟨w.heap.size, 4, none⟩) (Nat.le_refl _) _) _⟩
set_option maxRecDepth 100000 in
set_option maxHeartbeats 1000000 in
theorem object_some (B : HB) (ls : List (List Int)) (σ : HS) (addr : Int) (k s : Nat) (w : World) (h : HpAt w B ls σ) (ha : addr ≤ 9223372036854775807) (hh : hat σ addr = some (k, s)) :
    Calls Tryd.prog 30 #[.pointer (some ⟨B.b, 0, none⟩), .int .i64 addr] w (ObjIs ls σ addr w) := by
  have H := Lib.hid h
  have H1 := Lib.hid (h.call (fresh_alloc (Below.refl _ _) (.cells #[.int .i64 0, .int .i64 0, .int .i64 0, .slice none 0 0, .bool false] 68)))
  have HR := Lib.hid (Blk.new w #[.int .i64 0, .int .i64 0, .int .i64 0, .slice none 0 0, .bool false] 68)
  have HBE := Lib.hid (fresh_alloc (Below.refl w.heap.size w) (.cells #[.int .i64 0, .int .i64 0, .int .i64 0, .slice none 0 0, .bool false] 68))
  obtain ⟨p, z, h1, h2, h3, h4, h5, h6⟩ := slot_inside h hh
  obtain ⟨hk, hs, t, ht⟩ := hat_bd h hh
  obtain ⟨j, l, hj, hl, hn, hl1, hl2⟩ := nfl_is h ht h1
  obtain ⟨t1, se, co⟩ := t
  dsimp only at hj
  subst hj
  have hw := h.ar.hw
  have hn64 := h.ar.hn
  have HSL := Lib.hid (show ∀ i : Nat, i < nfl ls σ k s → slot σ.ps (addr + i) = some (k, p, s) from fun i hi => h6 i (by omega))
  have hnb : nfl ls σ k s ≤ 16 := by have := Cls.csz_bd p.c; omega
  have hab : addr < 1048576 + 2048 := by omega
  have hab0 : 1048576 ≤ addr := by omega
  obtain ⟨N, hN⟩ : ∃ N, nfl ls σ k s = N := ⟨_, rfl⟩
  have HH := Lib.hid hh
  have HT := Lib.hid ht
  have HK := Lib.hid hk
  have HS2 := Lib.hid hs
  have HL := Lib.hid hl
  have HN := Lib.hid hN
  rw [hN] at HSL hnb hn
  have HLN := Lib.hid hn
  have hjl : j < ls.length := (List.getElem?_eq_some_iff.1 hl).1
  have hjl2 : (j : Int) < (ls.length : Int) := by omega
  have hj0 : (0 : Int) ≤ (j : Int) := by omega
  clear h h1 h2 h3 h4 h5 h6 hh hk hs ht hl hn hl1 hl2 hw hn64 hN
  go_enter Tryd.func30, Tryd.ntmps30
  go_wp2_with fail
  refine (at_any B ls σ addr _ H1.out ha).mono ?_
  rw [HH.out]
  rintro e w1 ⟨rfl, hb⟩
  have HR1 := Lib.hid ((HR.out.call hb).alloc (.cells #[.int .i64 k, .int .i64 s] 121))
  have HB1 := Lib.hid (fresh_alloc (fresh_call HBE.out hb) (.cells #[.int .i64 k, .int .i64 s] 121))
  have hN := Blk.new w1 #[.int .i64 k, .int .i64 s] 121
  clear hb
  dsimp only [atv]
  go_wp2_with fail
  generalize w1.alloc (.cells #[.int .i64 k, .int .i64 s] 121) = W3 at *
  obtain ⟨bp, hbp⟩ : ∃ bp, w1.heap.size = bp := ⟨_, rfl⟩
  obtain ⟨br, hbr⟩ : ∃ br, w.heap.size = br := ⟨_, rfl⟩
  rw [hbp] at hN ⊢
  rw [hbr] at HR1 ⊢
  have HBR := Lib.hid hbr
  clear hbp hbr
  have H3 := Lib.hid (H.out.call HB1.out)
  obtain ⟨d0, d1, -, -⟩ := hN.two
  obtain ⟨e0, e1, e2, e3, e4⟩ := H3.out.five
  have l0 := H3.out.blk.lt
  have l1 := hN.lt
  clear hN
  go_upto_region 4 with (fail)
  go_cut [8] from 22 to 27 (fun p wx => ∃ bt, p = .pointer (some ⟨bt, 0, none⟩) ∧ Blk wx bt #[.int .i64 (j : Int), .int .i64 se, .int .i64 co] 118 ∧ Below W3.heap.size W3 wx)
  case first =>
    have hl1 := look_ext H3.out.mp HK.out HS2.out HT.out ⟨W3.drew, (Below.refl _ _).drew⟩
    have hl2 := look_ext H3.out.mp HK.out HS2.out HT.out ⟨(W3.alloc (.cells #[.int .i64 0, .int .i64 0, .int .i64 0] 118)).drew, (fresh_alloc (Below.refl _ _) _).drew⟩
    dsimp only at hl1 hl2
    go_region_with (fail)
    all_goals
      go_wp2_with fail
      go_meet
      exact ⟨W3.heap.size, rfl, Blk.new W3 _ _, (fresh_alloc (Below.refl _ _) _).drew⟩
  case rest =>
    obtain ⟨bt, rfl, hbl, hbe⟩ := hcut
    have H4 := Lib.hid (H3.out.call hbe)
    have HR4 := Lib.hid (HR1.out.call hbe)
    have HT4 := Lib.hid hbl
    have HB4 := Lib.hid (fresh_call HB1.out hbe)
    have l2 := hbl.lt
    obtain ⟨t0, t1, t2, -, -, -⟩ := hbl.three
    clear hbl hbe d0 d1 e0 e1 e2 e3 e4 H3 HR1 l0 l1
    go_wp2_with fail
    have H6 := Lib.hid (H4.out.call (fresh_alloc (Below.refl _ _) (.cells #[.int .i64 addr, .int .i64 (j : Int), .int .i64 se, .slice none 0 0, .bool (co != 0)] 68)))
    have HR6 := Lib.hid (HR4.out.alloc (.cells #[.int .i64 addr, .int .i64 (j : Int), .int .i64 se, .slice none 0 0, .bool (co != 0)] 68))
    have HT6 := Lib.hid (HT4.out.alloc (.cells #[.int .i64 addr, .int .i64 (j : Int), .int .i64 se, .slice none 0 0, .bool (co != 0)] 68))
    have HO6 := Lib.hid (Blk.new wc #[.int .i64 addr, .int .i64 (j : Int), .int .i64 se, .slice none 0 0, .bool (co != 0)] 68)
    have HB6 := Lib.hid (HB4.out.alloc HB4.out.size (.cells #[.int .i64 addr, .int .i64 (j : Int), .int .i64 se, .slice none 0 0, .bool (co != 0)] 68))
    have hbo : w.heap.size < wc.heap.size := by have := HR4.out.lt; have := HBR.out; omega
    clear l2 t0 t1 t2 H4 HR4 HT4 HB4
    generalize wc.alloc (.cells #[.int .i64 addr, .int .i64 (j : Int), .int .i64 se, .slice none 0 0, .bool (co != 0)] 68) = W6 at *
    obtain ⟨bo, hbo2⟩ : ∃ bo, wc.heap.size = bo := ⟨_, rfl⟩
    rw [hbo2] at HO6 hbo ⊢
    clear hbo2
    obtain ⟨t0, t1, t2, -, -, -⟩ := HT6.out.three
    obtain ⟨e0, e1, e2, e3, e4⟩ := H6.out.five
    have l0 := H6.out.blk.lt
    have l1 := HT6.out.lt
    obtain ⟨sb, off, A', c', hSA, hsb, hsc⟩ := rs_at H6.out.sh HL.out
    rw [hSA] at e1
    have hsz : sb < W6.heap.size := by have := H6.out.z_lt; omega
    clear hSA
    refine Ext.region W6 (by kernel_rfl) (by kernel_rfl) (Below.refl _ _) ?_
    repeat (first | (go_big_quiet_step (fail)))
    refine wpQuiet_nil ?_
    rintro _ ⟨x, rfl⟩
    have H7 := Lib.hid (H6.out.call x.below)
    have HR7 := Lib.hid (HR6.out.call x.below)
    have HO7 := Lib.hid (HO6.out.call x.below)
    have HB7 := Lib.hid (fresh_call HB6.out x.below)
    clear t0 t1 t2 e0 e1 e2 e3 e4 l0 l1 hsb hsc hsz H6 HR6 HO6 HB6 HT6
    generalize x.w = W7 at *
    rw [← HLN.out]
    have HI := Lib.hid (info_parts Book.infoI)
    obtain ⟨FL, hFL⟩ : ∃ FL, flds ls σ addr k s = FL := ⟨_, rfl⟩
    have HFL := Lib.hid (show FL.length = N by rw [← hFL, flds_len]; exact HN.out)
    have HFV := Lib.hid (show ∀ q : Nat, q < N → FL[q]? = some (Ar.fword σ.ps σ.ws (addr + q)) from fun q hq => by
      rw [← hFL]
      unfold flds
      rw [HN.out]
      unfold fword
      rw [HSL.out q hq]
      simp [hq])
    have HFE := Lib.hid hFL
    clear hFL
    go_wp2_with fail
    go_loopw [47] (fun i wr => ∃ (q : Nat) (a : Option Addr) (c : Nat), q ≤ N ∧ i = .int .i64 (q : Int) ∧ Blk wr bo #[.int .i64 addr, .int .i64 (j : Int), .int .i64 se, .slice a q c, .bool (co != 0)] 68 ∧
      wr.ownsRow w.heap.size 3 1 (.slice a q c) q ((FL.take q).map (.int .i64)) ∧ HpAt wr B ls σ ∧ Blk wr br #[.int .i64 0, .int .i64 0, .int .i64 0, .slice none 0 0, .bool false] 68 ∧ Below w.heap.size w wr) (fun i _ => N - (intOf i).toNat)
    case atStart => exact ⟨0, none, 0, Nat.zero_le _, rfl, HO7.out, World.ownsRow_nil _ _ _ _, H7.out, HR7.out, HB7.out⟩
    case round =>
      obtain ⟨q, a, c, hq, rfl, hbo1, how, hhp, hbr1, hbel⟩ := hrel
      have HO8 := Lib.hid hbo1
      have HW8 := Lib.hid how
      have H8 := Lib.hid hhp
      have HR8 := Lib.hid hbr1
      have HB8 := Lib.hid hbel
      obtain ⟨e0, e1, e2, e3, e4⟩ := hhp.five
      clear hbo1 how hhp hbr1 hbel H7 HO7 HR7 HB7
      by_cases hlt : q < N
      · have hlt2 : (q : Int) < (N : Int) := by omega
        have hx : wrap64 (addr + q) = addr + q := wrap64_id (by omega)
        have HV := Lib.hid (HFV.out q hlt)
        have HS1 := Lib.hid (show (slot σ.ps (addr + q)).isSome = true by rw [HSL.out q hlt]; rfl)
        have hlim : addr + (q : Int) ≤ 9223372036854775807 := by omega
        go_wp2_with (simp only [hx])
        refine (Ar.load_any _ _ _ _ _ (addr + q) _ H8.out.ar hlim).mono ?_
        rw [HS1.out]
        rintro e w2 ⟨rfl, d, rfl⟩
        obtain ⟨v, hv⟩ : ∃ v, fword σ.ps σ.ws (addr + q) = v := ⟨_, rfl⟩
        rw [hv] at HV ⊢
        clear hv e0 e1 e2 e3 e4
        have HO9 := Lib.hid (HO8.out.drewN d)
        have HW9 := Lib.hid (show (wr.drewN d).ownsRow w.heap.size 3 1 (.slice a q c) q ((FL.take q).map (.int .i64)) from HW8.out)
        have H9 := Lib.hid (H8.out.drewN d)
        have HR9 := Lib.hid (HR8.out.drewN d)
        have HB9 := Lib.hid (below_drewN HB8.out d)
        clear HO8 HW8 H8 HR8 HB8
        generalize wr.drewN d = w2 at *
        have c3 : w2.cell? ⟨bo, 3, none⟩ = some (.slice a q c) := HO9.out.cell 3
        have f3 := HO9.out.free 3
        have lbo := HO9.out.lt
        have HNE := Lib.hid (own_ne HW9.out HO9.out (by decide))
        have HNR := Lib.hid (own_ne HW9.out HR9.out (by decide))
        have HSZ := Lib.hid HB9.out.size
        dsimp only
        go_wp2_with (first
          | (at_builtin; go_loud (refine wpList_app _ rfl _ _ 27 rfl w.heap.size 3 HI.out.choose (.int .i64 0) 1 8 Tryd.underlying27 HI.out.choose_spec.1 HI.out.choose_spec.2.1 HI.out.choose_spec.2.2.1 HI.out.choose_spec.2.2.2 rfl (by decide) _ _ _ rfl (HW9.out.alloc _) (w2.heap.size + 1) _ 1 1 [.int .i64 v] rfl (Blk.reads (Blk.new w2 _ _) (by simp) rfl rfl (by decide)) ?c1 ?c2 ?c3 ?c4 ?_))
          | fail)
        case c1 => intro u hu; simp at hu; subst hu; rfl
        case c2 => unfold maxLen; omega
        case c3 => omega
        case c4 => have := HSZ.out; simp; omega
        intro a' c'' w3 ho3 hg3 hat3
        have hb3 : Below w.heap.size w w3 := (HB9.out.alloc HSZ.out _).grown hg3 (by have := HSZ.out; simp; omega) (fun k hk => (HW9.out.lt k hk).1)
        have ho3' : Blk w3 bo _ _ := (hg3.block bo (by simp; omega) HNE.out).trans (HO9.out.alloc _)
        have hr3 : Blk w3 br _ _ := (hg3.block br (by have := HR9.out.lt; simp; omega) HNR.out).trans (HR9.out.alloc _)
        have h3 : HpAt w3 B ls σ := H.out.call hb3
        have HT3 := Lib.hid (FL.take_add_one (i := q))
        have hown : w3.ownsRow w.heap.size 3 1 (.slice a' (q + 1) c'') (q + 1) ((FL.take (q + 1)).map (.int .i64)) := by
          rw [HT3.out, HV.out]
          simpa using ho3
        have HO3 := Lib.hid ho3'
        have HR3 := Lib.hid hr3
        have HOW3 := Lib.hid hown
        have HB3 := Lib.hid hb3
        have HNE3 := Lib.hid (own_ne hown ho3' (by decide))
        have f3' := ho3'.free 3
        have c3' : w3.cell? ⟨bo, 3, none⟩ = some (.slice a q c) := ho3'.cell 3
        have lbo3 := ho3'.lt
        clear ho3 hg3 hat3 hb3 ho3' hr3 hown h3 c3 f3 lbo
        go_wp2_with fail
        go_roundw
        case rel => exact ⟨q + 1, a', c'', by omega, by go_num, Blk.of_eq (HO3.out.set 3 _) rfl, own_block HOW3.out (fun m e => Below.heap_setCell w3 ⟨bo, 3, none⟩ _ m (fun e' => HNE3.out (by rw [e, e']))), H.out.call (HB3.out.setCell (p := ⟨bo, 3, none⟩) (by have := HBR.out; show w.heap.size ≤ bo; omega) _), (Below.heap_setCell w3 ⟨bo, 3, none⟩ _ br (by have := HBR.out; show br ≠ bo; omega)).trans HR3.out, HB3.out.setCell (p := ⟨bo, 3, none⟩) (by have := HBR.out; show w.heap.size ≤ bo; omega) _⟩
        case measure => simp [intOf]; omega
      · obtain rfl : q = N := by omega
        have hlt2 : ¬ (q : Int) < (q : Int) := by omega
        have o0 : wr.cell? ⟨bo, 0, none⟩ = some (.int .i64 addr) := HO8.out.cell 0
        have o1 : wr.cell? ⟨bo, 1, none⟩ = some (.int .i64 (j : Int)) := HO8.out.cell 1
        have o2 : wr.cell? ⟨bo, 2, none⟩ = some (.int .i64 se) := HO8.out.cell 2
        have o3 : wr.cell? ⟨bo, 3, none⟩ = some (.slice a q c) := HO8.out.cell 3
        have o4 : wr.cell? ⟨bo, 4, none⟩ = some (.bool (co != 0)) := HO8.out.cell 4
        have r0 : wr.cell? ⟨br, 0, none⟩ = some (.int .i64 0) := HR8.out.cell 0
        have r1 : wr.cell? ⟨br, 1, none⟩ = some (.int .i64 0) := HR8.out.cell 1
        have r2 : wr.cell? ⟨br, 2, none⟩ = some (.int .i64 0) := HR8.out.cell 2
        have r3 : wr.cell? ⟨br, 3, none⟩ = some (.slice none 0 0) := HR8.out.cell 3
        have r4 : wr.cell? ⟨br, 4, none⟩ = some (.bool false) := HR8.out.cell 4
        have f0 := HR8.out.free 0
        have f1 := HR8.out.free 1
        have f2 := HR8.out.free 2
        have f3 := HR8.out.free 3
        have f4 := HR8.out.free 4
        have HNR := Lib.hid (own_ne HW8.out HR8.out (by decide))
        have hne : ∀ (W : World) (i : Nat) (u : Value) (m : Nat), (Value.slice a q c).ownBlock = some m → (W.setCell ⟨br, i, none⟩ u).heap[m]? = W.heap[m]? := fun W i u m e => Below.heap_setCell W ⟨br, i, none⟩ u m (fun e' => HNR.out (by rw [e, e']))
        have HNE := Lib.hid hne
        clear hne
        clear e0 e1 e2 e3 e4
        go_wp2_with fail
        have hr := Blk.of_eq (((((HR8.out.set 0 (.int .i64 addr)).set 1 (.int .i64 (j : Int))).set 2 (.int .i64 se)).set 3 (.slice a q c)).set 4 (.bool (co != 0))) (cs' := #[.int .i64 addr, .int .i64 (j : Int), .int .i64 se, .slice a q c, .bool (co != 0)]) rfl
        try simp only [Exit.inBlock, Exit.then]
        refine bodyPost_ret (results_cell2 rfl _ _ _ _ _ _ hr Tryd.underlying68 (by kernel_rfl) rfl) rfl ?_
        have hfl : FL.take q = FL := List.take_of_length_le (by have := HFL.out; omega)
        refine Or.inr ⟨k, s, ((j : Int), se, co), a, c, HH.out, HT.out, by rw [HN.out]; rfl, ?_, ?_⟩
        · rw [HN.out, HFE.out]
          have h8 := HW8.out
          rw [hfl] at h8
          exact own_block (own_block (own_block (own_block (own_block h8 (HNE.out _ _ _)) (HNE.out _ _ _)) (HNE.out _ _ _)) (HNE.out _ _ _)) (HNE.out _ _ _)
        · have hz : w.heap.size ≤ br := by have := HBR.out; omega
          exact ((((HB8.out.setCell (p := ⟨br, 0, none⟩) hz _).setCell (p := ⟨br, 1, none⟩) hz _).setCell (p := ⟨br, 2, none⟩) hz _).setCell (p := ⟨br, 3, none⟩) hz _).setCell (p := ⟨br, 4, none⟩) hz _
theorem object_any (B : HB) (ls : List (List Int)) (σ : HS) (addr : Int) (w : World) (h : HpAt w B ls σ) (ha : addr ≤ 9223372036854775807) :
    Calls Tryd.prog 30 #[.pointer (some ⟨B.b, 0, none⟩), .int .i64 addr] w (ObjIs ls σ addr w) := by
  rcases hh : hat σ addr with _ | ⟨k, s⟩
  · exact object_none B ls σ addr w h ha hh
  · exact object_some B ls σ addr k s w h ha hh
end Go.Proofs.YtfgpadkoonogpaaDoor.Hp

namespace Go.Proofs.YtfgpadkoonogpaaDoor.Hp
open Go.RowKit Pg Ar Tm
set_option linter.unusedSimpArgs false
set_option linter.unusedVariables false

/-- The address of a used slot's word leads to it. -/
theorem slot_at {w : World} {b gp gw : Nat} {ps : List (Option PM)} {ws : List Int} (h : ArenaAt w b gp gw ps ws) {k s z : Nat} {p : PM} (hk : ps[k]? = some (some p)) (hs : s < p.n) (hU : p.U.testBit s = true) (hz : Cls.csz p.c = (z : Int)) :
    base ps k s = ((1048576 + 32 * k + s * z : Nat) : Int) ∧ k < 64 ∧ s < 32 ∧ 32 * k + s * z + z ≤ ws.length ∧ 0 < z ∧ z ≤ 16 ∧ ∀ f : Nat, f < z → slot ps ((1048576 + 32 * k + s * z : Nat) + (f : Int)) = some (k, p, s) := by
  have hpg := h.page k p hk
  have hfit := fit (c := p.c) (n := p.n) (s := s) hpg.2 hz hs
  have hkl := (List.getElem?_eq_some_iff.1 hk).1
  have hn := h.hn
  have hw := h.hw
  have hzb := Cls.csz_bd p.c
  have hg : get ps (k : Int) = some p := by rw [get_nat, hk]; rfl
  have hpn := hpg.1.hn
  refine ⟨?_, by omega, by omega, by omega, by omega, by omega, fun f hf => ?_⟩
  · rw [base_some hg, if_pos (by omega), hz, cast3]
  obtain ⟨g, hgg⟩ : ∃ g, s * z = g := ⟨_, rfl⟩
  have hx : ((1048576 + 32 * k + s * z : Nat) : Int) + f - 1048576 = ((32 * k + (g + f) : Nat) : Int) := by omega
  have hd : ((32 * k + (g + f) : Nat) : Int) / 32 = (k : Int) := by omega
  have hm : ((32 * k + (g + f) : Nat) : Int) % 32 = ((g + f : Nat) : Int) := by omega
  have hq : ((g + f : Nat) : Int) / (z : Int) = (s : Int) := by
    rw [← Int.natCast_ediv, ← hgg, Nat.mul_comm, Nat.mul_add_div (by omega), Nat.div_eq_of_lt hf, Nat.add_zero]
  have hlt : ((g + f : Nat) : Int) < Cls.csl p.c * Cls.csz p.c := by
    rw [hpg.2, hz, ← Int.natCast_mul]
    apply Int.ofNat_lt.2
    have : (s + 1) * z ≤ p.n * z := Nat.mul_le_mul_right z hs
    rw [Nat.add_mul] at this
    omega
  unfold slot
  rw [if_neg (by omega), hx, hd, hg]
  dsimp only
  rw [hm, hz, hq, at_nat, hU, if_pos ⟨by rw [← hz]; exact hlt, rfl⟩]
  simp
theorem hat_of {σ : HS} {k s : Nat} {p : PM} {A : Int} (h1 : base σ.ps k s = A) (h4 : slot σ.ps A = some (k, p, s)) : hat σ A = some (k, s) := by
  unfold hat
  rw [h4]
  dsimp only
  rw [if_pos h1]
theorem add_zero_nat (A : Int) : A + ((0 : Nat) : Int) = A := Int.add_zero A
theorem hat_at {w : World} {B : HB} {ls : List (List Int)} {σ : HS} (h : HpAt w B ls σ) {k s z : Nat} {p : PM} (hk : σ.ps[k]? = some (some p)) (hs : s < p.n) (hU : p.U.testBit s = true) (hz : Cls.csz p.c = (z : Int)) :
    hat σ ((1048576 + 32 * k + s * z : Nat) : Int) = some (k, s) := by
  obtain ⟨h1, -, -, -, h2, -, h3⟩ := slot_at h.ar hk hs hU hz
  exact hat_of h1 ((add_zero_nat _).symm ▸ h3 0 h2)
theorem gone_inv {w : World} {B : HB} {ls : List (List Int)} {σ : HS} (h : HpAt w B ls σ) {k : Nat} {p : PM} (hk : σ.ps[k]? = some (some p)) {s : Nat} (hs : s < 32) :
    (∀ i j, (put σ.M k s none i j).isSome = true ↔ ∃ q, (σ.ps.set k (some ⟨p.b, p.c, p.n, del p.U s, del p.M s⟩))[i]? = some (some q) ∧ q.U.testBit j = true) ∧
    (∀ i j t q, put σ.M k s none i j = some t → (σ.ps.set k (some ⟨p.b, p.c, p.n, del p.U s, del p.M s⟩))[i]? = some (some q) → ∃ l', ls[t.1.toNat]? = some l' ∧ 0 ≤ t.1 ∧ Cls.cof l'.length = q.c) := by
  have hlt := (List.getElem?_eq_some_iff.1 hk).1
  have hU := (h.ar.page k p hk).1.hU
  constructor
  · intro i j
    unfold put
    by_cases hi : i = k
    · subst hi
      by_cases hj : j = s
      · subst hj
        rw [if_pos ⟨rfl, rfl⟩]
        simp only [Option.isSome_none, Bool.false_eq_true, false_iff]
        rintro ⟨q, hq, hb⟩
        rw [List.getElem?_set_self hlt] at hq
        have hq := Option.some.inj (Option.some.inj hq)
        subst hq
        rw [del_bit hU hs] at hb
        simp at hb
      · rw [if_neg (fun e => hj e.2), h.inv i j]
        have hne : ¬ s = j := fun e => hj e.symm
        constructor
        · rintro ⟨q, hq, hb⟩
          rw [hk] at hq
          have hq := Option.some.inj (Option.some.inj hq)
          subst hq
          exact ⟨_, List.getElem?_set_self hlt, by rw [del_bit hU hs, hb]; simp [hne]⟩
        · rintro ⟨q, hq, hb⟩
          rw [List.getElem?_set_self hlt] at hq
          have hq := Option.some.inj (Option.some.inj hq)
          subst hq
          rw [del_bit hU hs] at hb
          exact ⟨p, hk, (Bool.and_eq_true_iff.1 hb).1⟩
    · rw [if_neg (fun e => hi e.1), h.inv i j, List.getElem?_set_ne (fun e => hi e.symm)]
  · intro i j t q ht hq
    unfold put at ht
    by_cases hi : i = k
    · subst hi
      rw [List.getElem?_set_self hlt] at hq
      have hq := Option.some.inj (Option.some.inj hq)
      subst hq
      by_cases hj : j = s
      · subst hj
        rw [if_pos ⟨rfl, rfl⟩] at ht
        cases ht
      · rw [if_neg (fun e => hj e.2)] at ht
        exact h.fit i j t p ht hk
    · rw [if_neg (fun e => hi e.1)] at ht
      rw [List.getElem?_set_ne (fun e => hi e.symm)] at hq
      exact h.fit i j t q ht hq
/-- What stands behind a sweep of some slots of a page. -/
def swM (M : Nat → Nat → Option Thing) (k : Nat) (D : List Nat) : Nat → Nat → Option Thing := fun i j => if i = k ∧ j ∈ D then (match M i j with | some t => if t.2.2 = 0 then none else some (t.1, t.2.1, 0) | none => none) else M i j
def white (M : Nat → Nat → Option Thing) (k s : Nat) : Bool := ((M k s).getD (0, 0, 1)).2.2 == 0
theorem swM_nil (M : Nat → Nat → Option Thing) (k : Nat) : swM M k [] = M := by
  funext i j
  simp [swM]
theorem swM_out {M : Nat → Nat → Option Thing} {k s : Nat} {D : List Nat} (h : s ∉ D) : swM M k D k s = M k s := by simp [swM, h]
theorem swM_white {M : Nat → Nat → Option Thing} {k s : Nat} {D : List Nat} {t : Thing} (ht : M k s = some t) (hw : t.2.2 = 0) : put (swM M k D) k s none = swM M k (D ++ [s]) := by
  funext i j
  unfold put swM
  by_cases hi : i = k
  · subst hi
    by_cases hj : j = s
    · subst hj
      simp [ht, hw]
    · by_cases hd : j ∈ D <;> simp [hj, hd]
  · simp [hi]
theorem swM_black {M : Nat → Nat → Option Thing} {k s : Nat} {D : List Nat} {t : Thing} (ht : M k s = some t) (hw : t.2.2 ≠ 0) : put (swM M k D) k s (some (t.1, t.2.1, 0)) = swM M k (D ++ [s]) := by
  funext i j
  unfold put swM
  by_cases hi : i = k
  · subst hi
    by_cases hj : j = s
    · subst hj
      simp [ht, hw]
    · by_cases hd : j ∈ D <;> simp [hj, hd]
  · simp [hi]
def goneN (M : Nat → Nat → Option Thing) (k : Nat) (D : List Nat) : Nat := (D.filter (white M k)).length
theorem goneN_white {M : Nat → Nat → Option Thing} {k s : Nat} {D : List Nat} {t : Thing} (ht : M k s = some t) (hw : t.2.2 = 0) : goneN M k (D ++ [s]) = goneN M k D + 1 := by
  unfold goneN
  rw [List.filter_append, List.length_append]
  simp [white, ht, hw]
theorem goneN_black {M : Nat → Nat → Option Thing} {k s : Nat} {D : List Nat} {t : Thing} (ht : M k s = some t) (hw : t.2.2 ≠ 0) : goneN M k (D ++ [s]) = goneN M k D := by
  unfold goneN
  rw [List.filter_append, List.length_append]
  simp [white, ht, hw]
theorem goneN_le (M : Nat → Nat → Option Thing) (k : Nat) (D : List Nat) : goneN M k D ≤ D.length := List.length_filter_le _ _
/-- SweepPage's answer, where there is a page. -/
def Sw (B : HB) (ls : List (List Int)) (σ : HS) (k : Nat) (p : PM) (w : World) (e : Ending) (w' : World) : Prop :=
  ∃ x : Option PM, e = .returned (.int .i64 (goneN σ.M k (Bit.bl p.U))) ∧ HpAt w' B ls { σ with ps := σ.ps.set k x, M := swM σ.M k (Bit.bl p.U) } ∧ Kept (fun i => i = p.b ∨ i = B.bm ∨ i = B.gp) w w' ∧
    ((x = none ∧ ∀ s, swM σ.M k (Bit.bl p.U) k s = none) ∨ ∃ q, x = some q ∧ q.b = p.b ∧ q.c = p.c ∧ q.n = p.n ∧ ∃ s, (swM σ.M k (Bit.bl p.U) k s).isSome = true)
end Go.Proofs.YtfgpadkoonogpaaDoor.Hp

namespace Go.Proofs.YtfgpadkoonogpaaDoor.Hp
open Go.RowKit Pg Ar Tm
set_option linter.unusedSimpArgs false
set_option linter.unusedVariables false

theorem sweep_none (B : HB) (ls : List (List Int)) (σ : HS) (k : Int) (w : World) (h : HpAt w B ls σ) (hT : Tab w) (hg : Ar.get σ.ps k = none) :
    Calls Tryd.prog 31 #[.pointer (some ⟨B.b, 0, none⟩), .int .i64 k] w fun e w' => e = .returned (.int .i64 0) ∧ Below w.heap.size w w' := by
  have H := Lib.hid h
  have HG := Lib.hid hg
  have HA := Lib.hid (page_all (p := (none : Option PM)) (w := w) (fun q e => by cases e) hT)
  obtain ⟨e0, e1, e2, e3, e4⟩ := h.five
  clear h hT hg
  go_enter Tryd.func31, Tryd.ntmps31
  go_wp2_with fail
  refine (none_any B ls σ _ H.out).mono ?_
  rintro e w1 ⟨rfl, rfl⟩
  dsimp only
  go_wp2_with fail
  refine (page_any _ _ _ _ _ _ _ H.out.ar).mono ?_
  rw [HG.out]
  rintro e w1 ⟨rfl, rfl⟩
  dsimp only [ptr]
  go_wp2_with fail
  refine HA.out.mono ?_
  rintro e w1 ⟨a, c, rfl, ho, hb⟩
  have H1 := Lib.hid (H.out.call hb)
  have HB1 := Lib.hid hb
  obtain ⟨e0, e1, e2, e3, e4⟩ := H1.out.five
  clear ho hb
  dsimp only [lst, List.length_nil]
  go_wp2_with fail
  go_loopw [5, 20] (fun g i wr => g = .int .i64 0 ∧ i = .int .i64 0 ∧ wr = w1) (fun _ _ _ => 0)
  case atStart => exact ⟨rfl, rfl, rfl⟩
  case round =>
    obtain ⟨rfl, rfl, rfl⟩ := hrel
    go_wp2_with fail
    refine (drop_no _ _ _ _ _ k _ H1.out.ar (fun p hp => by rw [HG.out] at hp; cases hp)).mono ?_
    rintro e w2 ⟨rfl, d, rfl⟩
    dsimp only
    go_wp2_with fail
    go_ret
    exact ⟨rfl, below_drewN HB1.out d⟩
theorem nodup_take {L : List Nat} (h : L.Pairwise (· ≠ ·)) {q s : Nat} (hq : L[q]? = some s) : s ∉ L.take q := by
  intro hm
  obtain ⟨i, hi, e⟩ := List.mem_iff_getElem.1 hm
  rw [List.length_take] at hi
  obtain ⟨hql, hqs⟩ := List.getElem?_eq_some_iff.1 hq
  rw [List.getElem_take] at e
  exact List.pairwise_iff_getElem.1 h i q (by omega) hql (by omega) (e.trans hqs.symm)
theorem bl_nodup (x : Nat) : (Bit.bl x).Pairwise (· ≠ ·) := by
  unfold Bit.bl Bit.sl
  exact List.Pairwise.filter _ (List.pairwise_lt_range.imp fun h => Nat.ne_of_lt h)
theorem bl_at {x q s : Nat} (h : (Bit.bl x)[q]? = some s) : x.testBit s = true ∧ s < 32 := by
  have := Bit.sl_mem.1 (List.mem_of_getElem? h)
  exact ⟨this.2, this.1⟩
theorem nats_at {L : List Nat} {q s : Nat} (h : L[q]? = some s) : (nats L)[q]? = some (.int .i64 (s : Int)) := by simp [nats, ints, h]
theorem hs_set (σ : HS) (k : Nat) (x y : Option PM) (m m' : Nat → Nat → Option Thing) : ({ ({ σ with ps := σ.ps.set k x, M := m } : HS) with ps := (σ.ps.set k x).set k y, M := m' } : HS) = { σ with ps := σ.ps.set k y, M := m' } := by
  simp
set_option maxRecDepth 100000 in
set_option maxHeartbeats 2000000 in
theorem sweep_some (B : HB) (ls : List (List Int)) (σ : HS) (k : Nat) (p : PM) (w : World) (h : HpAt w B ls σ) (hT : Tab w) (hp : σ.ps[k]? = some (some p)) :
    Calls Tryd.prog 31 #[.pointer (some ⟨B.b, 0, none⟩), .int .i64 k] w (Sw B ls σ k p w) := by
  have H := Lib.hid h
  have HG := Lib.hid (show Ar.get σ.ps (k : Int) = some p by rw [get_nat, hp]; rfl)
  have HP := Lib.hid hp
  have HA := Lib.hid (page_all (p := some p) (w := w) (fun q e => by cases e; exact (h.ar.page k p hp).1) hT)
  have hkl := (List.getElem?_eq_some_iff.1 hp).1
  have hk64 : k < 64 := by have := h.ar.hn; omega
  have HPN := Lib.hid (h.ar.page k p hp).1.hn
  obtain ⟨e0, e1, e2, e3, e4⟩ := h.five
  clear h hT hp
  go_enter Tryd.func31, Tryd.ntmps31
  go_wp2_with fail
  refine (none_any B ls σ _ H.out).mono ?_
  rintro e w1 ⟨rfl, rfl⟩
  dsimp only
  go_wp2_with fail
  refine (page_any _ _ _ _ _ _ _ H.out.ar).mono ?_
  rw [HG.out]
  rintro e w1 ⟨rfl, rfl⟩
  dsimp only [ptr]
  go_wp2_with fail
  refine HA.out.mono ?_
  obtain ⟨L, hL⟩ : ∃ L, Bit.bl p.U = L := ⟨_, rfl⟩
  have HLE := Lib.hid hL
  have HLN := Lib.hid (show L.length ≤ 32 by rw [← hL]; exact Bit.sl_len 32 p.U.testBit)
  have HND := Lib.hid (show L.Pairwise (· ≠ ·) by rw [← hL]; exact bl_nodup _)
  have HLA := Lib.hid (show ∀ q s : Nat, L[q]? = some s → p.U.testBit s = true ∧ s < 32 from fun q s e => bl_at (x := p.U) (by rw [hL]; exact e))
  dsimp only [lst]
  rw [hL]
  rintro e w1 ⟨a, c, rfl, ho, hb⟩
  have H1 := Lib.hid (H.out.call hb)
  have HB1 := Lib.hid hb
  have HO1 := Lib.hid ho
  have hl32 := HLN.out
  clear ho hb hL e0 e1 e2 e3 e4
  dsimp only
  go_wp2_with fail
  go_loopw [5, 20] (fun g i wr => ∃ (q : Nat) (pq : PM), q ≤ L.length ∧ i = .int .i64 (q : Int) ∧ g = .int .i64 (goneN σ.M k (L.take q) : Int) ∧ pq.b = p.b ∧ pq.c = p.c ∧ pq.n = p.n ∧
    HpAt wr B ls { σ with ps := σ.ps.set k (some pq), M := swM σ.M k (L.take q) } ∧ wr.ownsRow w.heap.size 3 1 (.slice a L.length c) L.length (nats L) ∧ Kept (fun i => i = p.b ∨ i = B.bm ∨ i = B.gp) w wr) (fun _ i _ => L.length - (intOf i).toNat)
  case atStart =>
    refine ⟨0, p, Nat.zero_le _, rfl, rfl, rfl, rfl, rfl, ?_, HO1.out, Kept.of_below HB1.out _⟩
    rw [List.take_zero, swM_nil, show σ.ps.set k (some p) = σ.ps by
      apply List.ext_getElem?
      intro i
      by_cases hi : k = i
      · subst hi; rw [List.getElem?_set_self hkl]; exact HP.out.symm
      · rw [List.getElem?_set_ne hi]]
    exact H1.out
  case round =>
    obtain ⟨q, pq, hq, rfl, rfl, hpb, hpc, hpn, hhp, how, hkp⟩ := hrel
    have H8 := Lib.hid hhp
    have HW8 := Lib.hid how
    have HK8 := Lib.hid hkp
    have HPB := Lib.hid hpb
    have HPC := Lib.hid hpc
    have HPQN := Lib.hid hpn
    have hgl := goneN_le σ.M k (L.take q)
    rw [List.length_take] at hgl
    obtain ⟨G, hG⟩ : ∃ G, goneN σ.M k (L.take q) = G := ⟨_, rfl⟩
    have HGN := Lib.hid hG
    rw [hG] at hgl ⊢
    clear hhp how hkp hpb hpc hpn hG H1 HO1
    obtain ⟨σq, hσq⟩ : ∃ σq : HS, ({ σ with ps := σ.ps.set k (some pq), M := swM σ.M k (L.take q) } : HS) = σq := ⟨_, rfl⟩
    rw [hσq] at H8
    have HSK := Lib.hid (show σq.ps[k]? = some (some pq) by rw [← hσq]; exact List.getElem?_set_self hkl)
    have HMQ := Lib.hid (show σq.M = swM σ.M k (L.take q) by rw [← hσq])
    have HSS := Lib.hid (show ∀ y m', ({ σq with ps := σq.ps.set k y, M := m' } : HS) = { σ with ps := σ.ps.set k y, M := m' } from fun y m' => by rw [← hσq]; exact hs_set σ k (some pq) y _ m')
    have HSM := Lib.hid (show ∀ m', ({ σq with M := m' } : HS) = { σ with ps := σ.ps.set k (some pq), M := m' } from fun m' => by rw [← hσq])
    clear hσq
    by_cases hlt : q < L.length
    · have hlt2 : (q : Int) < (L.length : Int) := by omega
      obtain ⟨s, hs⟩ : ∃ s, L[q]? = some s := ⟨_, List.getElem?_eq_getElem hlt⟩
      obtain ⟨hbit, hs32⟩ := HLA.out q s hs
      obtain ⟨t, ht⟩ : ∃ t, σ.M k s = some t := Option.isSome_iff_exists.1 ((H.out.inv k s).2 ⟨p, HP.out, hbit⟩)
      have hnot := nodup_take HND.out hs
      have HTQ := Lib.hid (show σq.M k s = some t by rw [HMQ.out, swM_out hnot]; exact ht)
      have HTM := Lib.hid ht
      have HTA := Lib.hid (show L.take (q + 1) = L.take q ++ [s] by rw [List.take_add_one, hs]; rfl)
      obtain ⟨rb, ro, hra, hrb, hrc⟩ := (Reads.of_own HW8.out).at_ (j := q) (nats_at hs)
      obtain ⟨t1, se, co⟩ := t
      have HSB := Lib.hid hbit
      clear hs hbit hnot ht
      subst hra
      go_wp2_with fail
      have H9 := Lib.hid (H8.out.call (fresh_alloc (Below.refl _ _) (.cells #[.int .i64 k, .int .i64 s] 121)))
      have HW9 := Lib.hid (HW8.out.alloc (.cells #[.int .i64 k, .int .i64 s] 121))
      have HK9 := Lib.hid (HK8.out.alloc (.cells #[.int .i64 k, .int .i64 s] 121))
      have HN9 := Lib.hid (Blk.new wr #[.int .i64 k, .int .i64 s] 121)
      have hwz : w.heap.size ≤ wr.heap.size := HK8.out.size
      clear H8 HW8 HK8 hrb hrc
      generalize wr.alloc (.cells #[.int .i64 k, .int .i64 s] 121) = W3 at *
      obtain ⟨bp, hbp⟩ : ∃ bp, wr.heap.size = bp := ⟨_, rfl⟩
      rw [hbp] at HN9 hwz ⊢
      clear hbp
      obtain ⟨d0, d1, -, -⟩ := HN9.out.two
      obtain ⟨e0, e1, e2, e3, e4⟩ := H9.out.five
      have l0 := H9.out.blk.lt
      have l1 := HN9.out.lt
      have hs64 : s < 64 := by omega
      go_upto_region 8 with (fail)
      go_cut [9] from 27 to 32 (fun x wx => ∃ bt, x = .pointer (some ⟨bt, 0, none⟩) ∧ W3.heap.size ≤ bt ∧ Blk wx bt #[.int .i64 t1, .int .i64 se, .int .i64 co] 118 ∧ Below W3.heap.size W3 wx)
      case first =>
        have hl1 := look_ext H9.out.mp hk64 hs32 HTQ.out ⟨W3.drew, (Below.refl _ _).drew⟩
        have hl2 := look_ext H9.out.mp hk64 hs32 HTQ.out ⟨(W3.alloc (.cells #[.int .i64 0, .int .i64 0, .int .i64 0] 118)).drew, (fresh_alloc (Below.refl _ _) _).drew⟩
        dsimp only at hl1 hl2
        go_region_with (fail)
        all_goals
          go_wp2_with fail
          go_meet
          exact ⟨W3.heap.size, rfl, Nat.le_refl _, Blk.new W3 _ _, (fresh_alloc (Below.refl _ _) _).drew⟩
      case rest =>
        obtain ⟨bt, rfl, hbt, hbl, hbe⟩ := hcut
        obtain ⟨w4, rfl⟩ : ∃ w4 : World, w4 = wc := ⟨_, rfl⟩
        have H4 := Lib.hid (H9.out.call hbe)
        have HW4 := Lib.hid (own_block HW9.out fun m e => hbe.block m (HW9.out.lt m e).2)
        have HK4 := Lib.hid (HK9.out.step (Kept.of_below hbe (fun i => i = p.b ∨ i = B.bm ∨ i = B.gp)) (fun _ _ e => e))
        have HN4 := Lib.hid (HN9.out.call hbe)
        have HT4 := Lib.hid hbl
        have hbpt : bp < bt := by omega
        have l2 := hbl.lt
        obtain ⟨t0, t1', t2, tf0, tf1, tf2⟩ := hbl.three
        have HFB := Lib.hid (show ∀ i, HFoot B σq i ∨ (B.y ≤ i ∧ i < B.z) → i ≠ bt from fun i hi e => by
          rcases hi with hi | hi
          · have := H9.out.lt hi; omega
          · have := H9.out.z_lt; omega)
        clear hbl hbe d0 d1 e0 e1 e2 e3 e4 H9 HW9 HK9 HN9 l0 l1
        by_cases hco : co = 0
        · subst hco
          go_wp2_with fail
          go_upto_region 10 with (fail)
          obtain ⟨e0, e1, e2, e3, e4⟩ := H4.out.five
          have hpq : s < pq.n ∧ pq.U.testBit s = true := by
            obtain ⟨p', hp', hb'⟩ := (H4.out.inv k s).1 (by rw [HTQ.out]; rfl)
            rw [HSK.out] at hp'
            have hp' := Option.some.inj (Option.some.inj hp')
            subst hp'
            exact ⟨(H4.out.ar.page k pq HSK.out).1.inU s hb', hb'⟩
          obtain ⟨z, hz⟩ : ∃ z : Nat, Cls.csz pq.c = (z : Int) := ⟨(Cls.csz pq.c).toNat, by have := (Cls.csz_bd pq.c).1; omega⟩
          obtain ⟨g1, g2, g3, g4, g5, g6, g7⟩ := slot_at H4.out.ar HSK.out hpq.1 hpq.2 hz
          have g8 := add_zero_nat _ ▸ g7 0 g5
          have hA1 : ((1048576 + 32 * k + s * z : Nat) : Int) ≤ 9223372036854775807 := by have := H4.out.ar.hw; have := H4.out.ar.hn; omega
          obtain ⟨A, hA⟩ : ∃ A : Int, ((1048576 + 32 * k + s * z : Nat) : Int) = A := ⟨_, rfl⟩
          rw [hA] at g1 g8 hA1
          have HBA := Lib.hid g1
          have HSL := Lib.hid g8
          have HFR := Lib.hid (fun n : Nat => free_yes _ _ _ _ _ A k pq s _ (H4.out.drewN n).ar hA1 g8 g1)
          clear g1 g2 g3 g4 g5 g6 g7 g8 hA hz hpq
          go_cut [47] from 36 to 47 (fun _ wx => HpMem wx B ls { σq with ps := σq.ps.set k (some ⟨pq.b, pq.c, pq.n, del pq.U s, del pq.M s⟩) } ∧ Kept (fun i => i = pq.b) w4 wx)
          case first =>
            have HD4 := Lib.hid (show HpAt w4.drew B ls σq from H4.out.drewN 1)
            go_region_with (first
              | (go_at_call 24; refine (base_any _ _ _ _ _ _ _ _ HD4.out.ar).mono ?_; rw [HBA.out]; rintro e wb ⟨rfl, d, rfl⟩; dsimp only)
              | (go_at_call 12; refine (HFR.out (1 + d)).mono ?_; rintro e wf ⟨rfl, ha, hk⟩; have HAF := Lib.hid ha; have HKF := Lib.hid hk; clear ha hk; dsimp only))
            all_goals
              go_wp2_with fail
              go_meet
              have HE := Lib.hid (H4.out.drewN (1 + d))
              refine ⟨{ HE.out.toHpMem.arena HAF.out HKF.out (fun i hi => .inl (.inr (.inr (.inr ⟨k, pq, HSK.out, hi.symm⟩)))) (fun i hi => by
                rcases foot_set_of hi with e | ⟨x, e, e'⟩
                · exact .inl e
                · have e := Option.some.inj e
                  subst e
                  exact .inl (.inr (.inr (.inr ⟨k, pq, HSK.out, e'⟩)))) with }, ((Kept.refl (fun i => i = pq.b) w4).drewN (1 + d)).step HKF.out (fun _ _ e => e)⟩
          case rest =>
            obtain ⟨hm5, hk5⟩ := hcut
            have HM5 := Lib.hid hm5
            have HGI := Lib.hid (gone_inv H4.out HSK.out hs32)
            have HNB := Lib.hid (show bp ≠ pq.b from fun e => blk_ne HN4.out (H4.out.ar.page k pq HSK.out).1.blk (by decide) e)
            have HN5 := Lib.hid (hk5.blk HN4.out HNB.out)
            have HW5 := Lib.hid (hk5.own HW4.out (fun m e e' => by
              have := (HW4.out.lt m e).1
              have h1 := H.out.lt (.inr (.inr (.inr (.inr (.inr ⟨k, p, HP.out, rfl⟩)))))
              have := HPB.out
              omega))
            have HK5 := Lib.hid (HK4.out.step hk5 (fun i _ e => .inl (e.trans HPB.out)))
            clear hm5 hk5 H4 HN4 HW4 HK4 e0 e1 e2 e3 e4 hA1 HFR HBA HSL
            go_wp2_with fail
            obtain ⟨e0, e1, e2, e3, e4⟩ := HM5.out.five
            obtain ⟨d0, d1, -, -⟩ := HN5.out.two
            go_still_tail 5, (by kernel_rfl)
            change wpList _ _ _ _ _ wc.drew
            have HM6 := Lib.hid (HM5.out.drewN 1)
            have HW6 := Lib.hid (show wc.drew.ownsRow w.heap.size 3 1 (.slice (some ⟨rb, ro, none⟩) L.length c) L.length (nats L) from HW5.out)
            have HK6 := Lib.hid (HK5.out.drewN 1)
            have hW6 : wc.drewN 1 = wc.drew := rfl
            rw [hW6] at HM6 HK6
            clear hW6 HM5 HW5 HK5 HN5 e0 e1 e2 e3 e4 d0 d1
            generalize wc.drew = W6 at *
            go_wp2_with (first
              | (at_delete; refine wpList_del rfl _ _ rfl (k := k) (s := s) rfl rfl HM6.out.mp hk64 hs32 ?_; intro w7 hm7 hg7)
              | fail)
            have hat7 : HpAt w7 B ls { σ with ps := σ.ps.set k (some ⟨pq.b, pq.c, pq.n, del pq.U s, del pq.M s⟩), M := swM σ.M k (L.take (q + 1)) } := by
              rw [HTA.out, ← swM_white HTM.out rfl, ← HMQ.out, ← HSS.out]
              exact ⟨HM6.out.mapped hm7 hg7, HGI.out.1, HGI.out.2⟩
            have HAT7 := Lib.hid hat7
            have HG7 := Lib.hid hg7
            clear hat7 hm7 hg7
            go_roundw
            case rel => exact ⟨q + 1, ⟨pq.b, pq.c, pq.n, del pq.U s, del pq.M s⟩, by omega, by go_num, by rw [HTA.out, goneN_white HTM.out rfl, HGN.out]; go_num, HPB.out, HPC.out, HPQN.out, HAT7.out, own_block HW6.out (fun m e => HG7.out.block m (HW6.out.lt m e).2 (fun e' => by have := (HW6.out.lt m e).1; have := H.out.lt (.inr (.inl rfl)); have := Option.some.inj e'; omega)), HK6.out.step (Kept.of_grown HG7.out) (fun i _ e => .inr (.inl (Option.some.inj e)))⟩
            case measure => simp [intOf]; omega
        · have hcx : (co == 0) = false := by simpa using hco
          have HCO := Lib.hid hco
          clear hco
          go_wp2_with fail
          have h5b := Blk.of_eq (HT4.out.set 2 (.int .i64 0)) (cs' := #[.int .i64 t1, .int .i64 se, .int .i64 0]) rfl
          have hk5 : ∀ i, i ≠ bt → (w4.setCell ⟨bt, 2, none⟩ (.int .i64 0)).heap[i]? = w4.heap[i]? := fun i hi => Below.heap_setCell w4 ⟨bt, 2, none⟩ _ i (by simpa using hi)
          have HN5 := Lib.hid (show Blk (w4.setCell ⟨bt, 2, none⟩ (.int .i64 0)) bp #[.int .i64 k, .int .i64 s] 121 from (hk5 bp (by omega)).trans HN4.out)
          have HT5 := Lib.hid h5b
          have H5 := Lib.hid (H4.out.keep (w' := w4.setCell ⟨bt, 2, none⟩ (.int .i64 0)) (fun i hi => hk5 i (HFB.out i hi)))
          have HNE := Lib.hid (own_ne HW4.out HT4.out (by decide))
          have HW5 := Lib.hid (own_block HW4.out fun m e => hk5 m (fun e' => HNE.out (by rw [e, e'])))
          have HK5 := Lib.hid (HK4.out.set (p := ⟨bt, 2, none⟩) (.inr (by show w.heap.size ≤ bt; omega)) (.int .i64 0))
          clear h5b hk5 H4 HN4 HT4 HW4 HK4 t0 t1' t2 tf0 tf1 tf2 l2
          generalize w4.setCell ⟨bt, 2, none⟩ (.int .i64 0) = W5 at *
          obtain ⟨d0, d1, -, -⟩ := HN5.out.two
          obtain ⟨t0, t1', t2, -, -, -⟩ := HT5.out.three
          obtain ⟨e0, e1, e2, e3, e4⟩ := H5.out.five
          go_still_tail 6, (by kernel_rfl)
          change wpList _ _ _ _ _ W5.drew
          have H6 := Lib.hid (H5.out.drewN 1)
          have HW6 := Lib.hid (show W5.drew.ownsRow w.heap.size 3 1 (.slice (some ⟨rb, ro, none⟩) L.length c) L.length (nats L) from HW5.out)
          have HK6 := Lib.hid (HK5.out.drewN 1)
          have hW6 : W5.drewN 1 = W5.drew := rfl
          rw [hW6] at H6 HK6
          clear hW6 H5 HW5 HK5 HN5 HT5 e0 e1 e2 e3 e4 d0 d1 t0 t1' t2
          generalize W5.drew = W6 at *
          go_wp2_with (first
            | (at_mapUpdate; refine wpList_put rfl _ _ _ rfl (k := k) (s := s) (t1, se, 0) rfl rfl rfl H6.out.mp hk64 hs32 ?_; intro w7 hm7 hg7)
            | fail)
          have hinv := turn_inv H6.out HTQ.out (u := (t1, se, 0)) rfl
          have hat7 : HpAt w7 B ls { σ with ps := σ.ps.set k (some pq), M := swM σ.M k (L.take (q + 1)) } := by
            rw [HTA.out, ← swM_black HTM.out HCO.out, ← HMQ.out, ← HSM.out]
            exact H6.out.mapped hm7 hg7 hinv.1 hinv.2
          have HAT7 := Lib.hid hat7
          have HG7 := Lib.hid hg7
          clear hat7 hm7 hg7 hinv
          go_roundw
          case rel => exact ⟨q + 1, pq, by omega, by go_num, by rw [HTA.out, goneN_black HTM.out HCO.out, HGN.out], HPB.out, HPC.out, HPQN.out, HAT7.out, own_block HW6.out (fun m e => HG7.out.block m (HW6.out.lt m e).2 (fun e' => by have := (HW6.out.lt m e).1; have := H.out.lt (.inr (.inl rfl)); have := Option.some.inj e'; omega)), HK6.out.step (Kept.of_grown HG7.out) (fun i _ e => .inr (.inl (Option.some.inj e)))⟩
          case measure => simp [intOf]; omega
    · obtain rfl : q = L.length := by omega
      have hlt2 : ¬ (L.length : Int) < (L.length : Int) := by omega
      have HTK := Lib.hid (List.take_length (l := L))
      obtain ⟨e0, e1, e2, e3, e4⟩ := H8.out.five
      have hget : Ar.get σq.ps (k : Int) = some pq := by rw [get_nat, HSK.out]; rfl
      have HGQ := Lib.hid hget
      have HGL := Lib.hid (show goneN σ.M k (Bit.bl p.U) = G by rw [HLE.out, ← HTK.out]; exact HGN.out)
      have HML := Lib.hid (show σq.M = swM σ.M k (Bit.bl p.U) by rw [HLE.out, HMQ.out, HTK.out])
      clear hget
      by_cases hu : (Bit.bl pq.U).length = 0
      · have HU := Lib.hid hu
        clear hu
        go_wp2_with fail
        refine (drop_yes _ _ _ _ _ k pq _ H8.out.ar HSK.out HU.out).mono ?_
        rintro e w2 ⟨rfl, ha, hk⟩
        have HAF := Lib.hid ha
        have HKF := Lib.hid hk
        clear ha hk e0 e1 e2 e3 e4
        dsimp only
        go_wp2_with fail
        go_ret
        have hnoM : ∀ s, σq.M k s = none := by
          intro s
          cases hm : σq.M k s with
          | none => rfl
          | some t =>
            obtain ⟨p', hp', hb'⟩ := (H8.out.inv k s).1 (by rw [hm]; rfl)
            rw [HSK.out] at hp'
            have hp' := Option.some.inj (Option.some.inj hp')
            subst hp'
            have hs := (H8.out.ar.page k pq HSK.out).1
            have := Bit.sl_mem (n := 32) (i := s) (p := pq.U.testBit)
            have hmem := this.2 ⟨by have := hs.inU s hb'; have := hs.hn; omega, hb'⟩
            have := List.length_pos_of_mem hmem
            have := HU.out
            unfold Bit.bl at this
            omega
        refine ⟨none, by rw [HGL.out]; rfl, ?_, HK8.out.step HKF.out (fun i _ e => .inr (.inr e)), .inl ⟨rfl, fun s => by rw [← HML.out]; exact hnoM s⟩⟩
        rw [← HML.out, ← HSS.out]
        refine H8.out.arena HAF.out HKF.out (fun i hi => .inl (.inr (.inl hi))) (fun i hi => by
          rcases foot_set_of hi with e | ⟨x, e, e'⟩
          · exact .inl e
          · cases e) (fun i j => ?_) (fun i j t x ht hx => ?_)
        · rw [H8.out.inv i j]
          by_cases hi : i = k
          · subst hi
            constructor
            · rintro ⟨x, hx, hb⟩
              have := (H8.out.inv i j).2 ⟨x, hx, hb⟩
              rw [hnoM j] at this
              cases this
            · rintro ⟨x, hx, hb⟩
              rcases set_some hx with ⟨_, e, _⟩ | ⟨e, _⟩
              · cases e
              · exact absurd rfl e
          · rw [List.getElem?_set_ne (fun e => hi e.symm)]
        · rcases set_some hx with ⟨_, e, _⟩ | ⟨_, e⟩
          · cases e
          · exact H8.out.fit i j t x ht e
      · have HU := Lib.hid hu
        clear hu
        go_wp2_with fail
        refine (drop_no _ _ _ _ _ (k : Int) _ H8.out.ar (fun p' hp' => by rw [HGQ.out] at hp'; have hp' := Option.some.inj hp'; subst hp'; have := HU.out; omega)).mono ?_
        rintro e w2 ⟨rfl, d, rfl⟩
        clear e0 e1 e2 e3 e4
        dsimp only
        go_wp2_with fail
        go_ret
        obtain ⟨s, hs⟩ : ∃ s, s ∈ Bit.bl pq.U := by
          rcases hb : Bit.bl pq.U with _ | ⟨s, r⟩
          · have := HU.out; rw [hb] at this; exact absurd rfl this
          · exact ⟨s, by simp⟩
        have hs' := Bit.sl_mem.1 hs
        refine ⟨some pq, by rw [HGL.out]; rfl, ?_, HK8.out.drewN d, .inr ⟨pq, rfl, HPB.out, HPC.out, HPQN.out, s, ?_⟩⟩
        · rw [← HML.out, ← HSM.out]
          exact H8.out.drewN d
        · rw [← HML.out]
          exact (H8.out.inv k s).2 ⟨pq, HSK.out, hs'.2⟩
end Go.Proofs.YtfgpadkoonogpaaDoor.Hp

namespace Go.Proofs.YtfgpadkoonogpaaDoor.Hp
open Go.RowKit Pg Ar Tm
set_option linter.unusedSimpArgs false
set_option linter.unusedVariables false

/-- A heap with nothing in it. -/
def start (n : Nat) : HS := ⟨List.replicate n none, List.replicate (32 * n) 0, fun _ _ => none, 0, 0⟩
def NewIs (pages : Int) (ls : List (List Int)) (w : World) (e : Ending) (w' : World) : Prop :=
  ∃ B : HB, e = .returned (.tuple #[.pointer (some ⟨B.b, 0, none⟩), .int .i64 0]) ∧ HpAt w' B ls (start (min (max pages 0) 64).toNat) ∧ w.heap.size ≤ B.y ∧ Below w.heap.size w w'
theorem infoSh : (Tryd.prog.info? 64).map (fun i => (i.zero, i.size, i.bytes)) = some (some (.agg #[.slice none 0 0]), 1, 24) := by kernel_rfl
theorem chk_ok {ls : List (List Int)} (h : Shp.chk ls = 0) : ls.length ≤ 16 ∧ ∀ l ∈ ls, 1 ≤ l.length ∧ l.length ≤ 16 := by
  unfold Shp.chk at h
  split at h
  · cases h
  refine ⟨by omega, ?_⟩
  suffices hs : ∀ (n : Int) (l' : List (List Int)), Shp.chkL n l' = 0 → ∀ l ∈ l', 1 ≤ l.length ∧ l.length ≤ 16 from hs _ _ h
  intro n l'
  induction l' with
  | nil => intro _ l hl; cases hl
  | cons x r ih =>
    intro hx l hl
    unfold Shp.chkL at hx
    split at hx
    · rename_i h1
      rcases List.mem_cons.1 hl with rfl | hl
      · unfold Shp.chk1 at h1
        split at h1
        · cases h1
        · omega
      · exact ih hx l hl
    · contradiction
/-- The copies of the first shapes. -/
def ShR (w : World) (z : Nat) (v : Value) (q : Nat) (ls : List (List Int)) : Prop :=
  ∃ (a : Option Addr) (c : Nat) (vs : List Value), v = .slice a q c ∧ w.ownsRow z 64 1 (.slice a q c) q vs ∧ ∀ i l, i < q → ls[i]? = some l → ∃ A' c', vs[i]? = some (.slice A' l.length c') ∧ w.ownsRow z 3 1 (.slice A' l.length c') l.length (l.map (.int .i64))
theorem ShR.rs {w : World} {z : Nat} {v : Value} {ls : List (List Int)} (h : ShR w z v ls.length ls) (hw : ∀ l ∈ ls, ∀ x ∈ l, (Lit.int .i64 x).wf = true) : ∃ a c, v = .slice a ls.length c ∧ Shp.RS w w.heap.size a ls.length c ls := by
  obtain ⟨a, c, vs, rfl, h1, h2⟩ := h
  have hr := Reads.of_own h1
  refine ⟨a, c, rfl, rfl, hr.1, hr.2.1, fun i l hl => ?_⟩
  have hi := (List.getElem?_eq_some_iff.1 hl).1
  obtain ⟨A', c', h3, h4⟩ := h2 i l hi hl
  obtain ⟨b, off, rfl, hb, hc⟩ := hr.at_ h3
  exact ⟨b, off, A', c', rfl, hb, hc, ⟨rfl, Reads.of_own h4⟩, hw l (List.mem_of_getElem? hl)⟩
theorem own_low {w : World} {y n m size b off c : Nat} {e : TypeId} {xs : List Value} (h : w.ownsRow y e size (.slice (some ⟨b, off, none⟩) n c) m xs) : y ≤ b := (h.lt b rfl).1
theorem ShR.rsl {w : World} {y c : Nat} {a : Option Addr} {ls : List (List Int)} (h : ShR w y (.slice a ls.length c) ls.length ls) (hw : ∀ l ∈ ls, ∀ x ∈ l, (Lit.int .i64 x).wf = true) : RSL w y w.heap.size a ls.length c ls := by
  obtain ⟨a', c', vs, e0, h1, h2⟩ := h
  injection e0 with e1 e2 e3
  subst e1 e3
  have key : ∀ w' : World, (∀ i, y ≤ i → i < w.heap.size → w'.heap[i]? = w.heap[i]?) → Shp.RS w' w.heap.size a ls.length c ls := by
    intro w' hb
    have hr := Reads.of_own h1
    refine ⟨rfl, hr.1, hr.2.1, fun i l hl => ?_⟩
    have hi := (List.getElem?_eq_some_iff.1 hl).1
    obtain ⟨A', c', h3, h4⟩ := h2 i l hi hl
    obtain ⟨b, off, rfl, hbl, hc⟩ := hr.at_ h3
    have hr4 := Reads.of_own h4
    refine ⟨b, off, A', c', rfl, hbl, (World.cell?_of_block (a := ⟨b, off + i, none⟩) (hb b (own_low h1) hbl)).trans hc, ⟨rfl, hr4.1, hr4.2.1, hr4.2.2.1, fun hne => ?_⟩, hw l (List.mem_of_getElem? hl)⟩
    obtain ⟨b4, o4, rfl, hb4, hc4⟩ := hr4.2.2.2 hne
    exact ⟨b4, o4, rfl, hb4, fun j u hu => (World.cell?_of_block (a := ⟨b4, o4 + j, none⟩) (hb b4 (own_low h4) hb4)).trans (hc4 j u hu)⟩
  exact ⟨key w fun _ _ _ => rfl, key⟩
set_option maxRecDepth 100000 in
set_option maxHeartbeats 1000000 in
theorem new_any (pages : Int) (SA : Option Addr) (n c : Nat) (ls : List (List Int)) (w : World) (hR : Shp.RS w w.heap.size SA n c ls) (hc : Shp.chk ls = 0) :
    Calls Tryd.prog 27 #[.int .i64 pages, .slice SA n c] w (NewIs pages ls w) := by
  have hmm := @run_makeMap Tryd.prog
  have HR := Lib.hid hR
  have HC := Lib.hid hc
  have HLS := Lib.hid (chk_ok hc)
  have HI := Lib.hid (info_parts Book.infoI)
  have HIS := Lib.hid (info_parts infoSh)
  have hn := hR.1
  have hn16 := (chk_ok hc).1
  clear hR hc
  subst hn
  go_enter Tryd.func27, Tryd.ntmps27
  go_wp2_with fail
  refine (Shp.check_any _ _ _ _ _ HR.out).mono ?_
  rw [HC.out]
  rintro e w1 ⟨rfl, hb⟩
  have HB1 := Lib.hid hb
  clear hb
  dsimp only
  go_wp2_with fail
  go_loopw [7, 17] (fun v i wr => ∃ q : Nat, q ≤ ls.length ∧ i = .int .i64 (q : Int) ∧ ShR wr w.heap.size v q ls ∧ Below w.heap.size w wr) (fun _ i _ => ls.length - (intOf i).toNat)
  case atStart => exact ⟨0, Nat.zero_le _, rfl, ⟨none, 0, [], rfl, World.ownsRow_nil _ _ _ _, fun i l hi => by omega⟩, HB1.out⟩
  case round =>
    obtain ⟨q, hq, rfl, ⟨a, c2, vs, rfl, ho, hall⟩, hbe⟩ := hrel
    have HO := Lib.hid ho
    have HAL := Lib.hid hall
    have HBE := Lib.hid hbe
    have hz := hbe.size
    clear ho hall hbe HB1
    by_cases hlt : q < ls.length
    · have hlt2 : (q : Int) < (ls.length : Int) := by omega
      obtain ⟨l, hl⟩ : ∃ l, ls[q]? = some l := ⟨_, List.getElem?_eq_getElem hlt⟩
      obtain ⟨sb, off, A1, c1, hSA, hsb, hsc, hRI, hwf⟩ := HR.out.2.2.2 q l hl
      have HL := Lib.hid hl
      have hll := HLS.out.2 l (List.mem_of_getElem? hl)
      have hsc1 := (HBE.out.cell (p := ⟨sb, off + q, none⟩) hsb).trans hsc
      have HRL := Lib.hid (hRI.2.below HBE.out)
      subst hSA
      clear hl hRI hwf hsc
      have HW0 := Lib.hid (HBE.out.alloc hz (.cells #[.slice A1 l.length c1] 64))
      have HRW := Lib.hid (HRL.out.below ((Below.refl w.heap.size wr).alloc hz (.cells #[.slice A1 l.length c1] 64)))
      go_wp2_with (first
        | (at_builtin; go_loud (refine wpList_app _ rfl _ _ 27 rfl w.heap.size 3 HI.out.choose (.int .i64 0) 1 8 Tryd.underlying27 HI.out.choose_spec.1 HI.out.choose_spec.2.1 HI.out.choose_spec.2.2.1 HI.out.choose_spec.2.2.2 rfl (by decide) (.slice none 0 0) 0 [] rfl (World.ownsRow_nil _ _ _ _) w.heap.size A1 l.length c1 (l.map (.int .i64)) rfl HRW.out ?a1 ?a2 ?a3 ?a4 ?_))
        | fail)
      case a1 => intro u hu; obtain ⟨x, _, rfl⟩ := List.mem_map.1 hu; rfl
      case a2 => unfold maxLen; omega
      case a3 => omega
      case a4 => simp; omega
      intro a3 c3 w3 ho3 hg3 hat3
      have hb3 : Below w.heap.size w w3 := HW0.out.grown hg3 (by simp; omega) (fun k hk => by cases hk)
      have ho3' : w3.ownsRow w.heap.size 3 1 (.slice a3 l.length c3) l.length (l.map (.int .i64)) := by simpa using ho3
      have hk3 : ∀ m, m < wr.heap.size → w3.heap[m]? = wr.heap[m]? := fun m hm => (hg3.block m (by simp; omega) (by simp [Value.ownBlock])).trans (Below.heap_alloc wr _ m hm)
      have HO3 := Lib.hid (own_block HO.out fun m e => hk3 m (HO.out.lt m e).2)
      have HN3 := Lib.hid ho3'
      have HAL3 := Lib.hid (show ∀ i l, i < q → ls[i]? = some l → ∃ A' c', vs[i]? = some (.slice A' l.length c') ∧ w3.ownsRow w.heap.size 3 1 (.slice A' l.length c') l.length (l.map (.int .i64)) from fun i l' hi hl' => by
        obtain ⟨A', c', h1, h2⟩ := HAL.out i l' hi hl'
        exact ⟨A', c', h1, own_block h2 fun m e => hk3 m (h2.lt m e).2⟩)
      have HB3 := Lib.hid hb3
      have hz3 := hb3.size
      clear ho3 hg3 hat3 hb3 ho3' hk3 HW0 HRW HRL hsc1 hsb
      go_wp2_with (first
        | (at_builtin; go_loud (refine wpList_app _ rfl _ _ 73 rfl w.heap.size 64 HIS.out.choose (.agg #[.slice none 0 0]) 1 24 Tryd.underlying73 HIS.out.choose_spec.1 HIS.out.choose_spec.2.1 HIS.out.choose_spec.2.2.1 HIS.out.choose_spec.2.2.2 rfl (by decide) _ _ _ rfl (HO3.out.alloc _) (w3.heap.size + 1) _ 1 1 [.slice a3 l.length c3] rfl (Blk.reads (Blk.new w3 _ _) (by simp) rfl rfl (by decide)) ?b1 ?b2 ?b3 ?b4 ?_))
        | fail)
      case b1 => intro u hu; simp at hu; subst hu; rfl
      case b2 => unfold maxLen; omega
      case b3 => omega
      case b4 => simp; omega
      intro a5 c5 w5 ho5 hg5 hat5
      have hki : Book.KeepsInts w3 w5 := (Book.KeepsInts.below ((Below.refl _ _).alloc (Nat.le_refl _) (.cells #[.slice a3 l.length c3] 64))).trans (Book.KeepsInts.grown hg5 (HO3.out.alloc _) (by decide))
      have hb5 : Below w.heap.size w w5 := (HB3.out.alloc hz3 _).grown hg5 (by simp; omega) (fun k hk => (HO3.out.lt k hk).1)
      have HS5 := Lib.hid (show ShR w5 w.heap.size (.slice a5 (q + 1) c5) (q + 1) ls from ⟨a5, c5, vs ++ [.slice a3 l.length c3], rfl, by simpa using ho5, fun i l' hi hl' => by
        have hvl : vs.length = q := by have := HO3.out.1; omega
        by_cases hiq : i < q
        · obtain ⟨A', c', h1, h2⟩ := HAL3.out i l' hiq hl'
          exact ⟨A', c', by rw [List.getElem?_append_left (by omega)]; exact h1, hki _ _ _ _ h2⟩
        · obtain rfl : i = q := by omega
          rw [HL.out] at hl'
          have hl' := Option.some.inj hl'
          subst hl'
          exact ⟨a3, c3, by rw [List.getElem?_append_right (by omega), hvl]; simp, hki _ _ _ _ HN3.out⟩⟩)
      have HB5 := Lib.hid hb5
      clear ho5 hg5 hat5 hki hb5
      go_wp2_with fail
      go_roundw
      case rel => exact ⟨q + 1, by omega, by go_num, HS5.out, HB5.out⟩
      case measure => simp [intOf]; omega
    · obtain rfl : q = ls.length := by omega
      have hlt2 : ¬ (ls.length : Int) < (ls.length : Int) := by omega
      have hwf : ∀ l ∈ ls, ∀ x ∈ l, (Lit.int .i64 x).wf = true := fun l hl => by
        obtain ⟨i, hi⟩ := List.mem_iff_getElem?.1 hl
        obtain ⟨_, _, _, _, _, _, _, _, h⟩ := HR.out.2.2.2 i l hi
        exact h
      have HRS := Lib.hid (ShR.rsl ⟨a, c2, vs, rfl, HO.out, HAL.out⟩ hwf)
      clear hwf
      go_wp2_with fail
      refine (Ar.new_any pages _).mono ?_
      rintro e w2 ⟨b, gp, gw, rfl, ha, hb1, hb2, hb3, hbe⟩
      have HA := Lib.hid ha
      have HB2 := Lib.hid hbe
      have hz2 := hbe.size
      clear ha hbe
      dsimp only
      go_wp2_with fail
      go_ret2
      have hmap := TMap.made w2
      have hW : Below w2.heap.size w2 ((w2.alloc (.map #[] 0)).alloc (.cells #[.pointer (some ⟨b, 0, none⟩), .slice a ls.length c2, .map (some w2.heap.size), .int .i64 0, .int .i64 0] 116)) := ((Below.refl _ _).alloc (Nat.le_refl _) _).alloc (by simp) _
      have hblk := Blk.new (w2.alloc (.map #[] 0)) #[.pointer (some ⟨b, 0, none⟩), .slice a ls.length c2, .map (some w2.heap.size), .int .i64 0, .int .i64 0] 116
      rw [World.size_alloc] at hblk
      have hnone : ∀ (k : Nat) (p : PM), ¬ (List.replicate (min (max pages 0) 64).toNat (none : Option PM))[k]? = some (some p) := fun k p hk => by
        rw [List.getElem?_replicate] at hk
        split at hk <;> simp at hk
      refine ⟨⟨wr.heap.size, w2.heap.size + 1, b, gp, gw, w2.heap.size, a, c2, w.heap.size⟩, rfl, ⟨⟨hblk, HA.out.call hW, hmap.block (Below.heap_alloc _ _ _ (by simp)), ?_, ?_, HBE.out.size, HLS.out.2⟩, ?_, ?_⟩, Nat.le_refl _, (HBE.out.trans (HB2.out.mono HBE.out.size)).trans (hW.mono (by have := HBE.out.size; omega))⟩
      · exact HRS.out.keep fun i _ hi => (hW.block i (by have hi : i < wr.heap.size := hi; omega)).trans (HB2.out.block i hi)
      · rintro i (rfl | rfl | hi)
        · show wr.heap.size ≤ w2.heap.size + 1
          omega
        · exact hz2
        · rcases hi with rfl | rfl | rfl | ⟨k, p, hk, rfl⟩
          · exact hb1
          · exact hb2
          · exact hb3
          · exact absurd hk (hnone k p)
      · intro k s
        constructor
        · intro h; cases h
        · rintro ⟨p, hp, _⟩; exact absurd hp (hnone k p)
      · intro k s t p ht
        cases ht
end Go.Proofs.YtfgpadkoonogpaaDoor.Hp

namespace Go.Proofs.YtfgpadkoonogpaaDoor.Hp
open Go.RowKit Pg Ar Tm
set_option linter.unusedSimpArgs false
set_option linter.unusedVariables false

theorem mem_at {α : Type} {l : List α} {x : α} (h : x ∈ l) : ∃ i : Nat, l[i]? = some x := by
  obtain ⟨i, hi, e⟩ := List.mem_iff_getElem.1 h
  exact ⟨i, by rw [List.getElem?_eq_getElem hi, e]⟩
/-- Each address of All is an object's. -/
theorem allOf_is {w : World} {B : HB} {ls : List (List Int)} {σ : HS} (h : HpAt w B ls σ) : ∀ j, ∀ a ∈ allOf σ.ps j, ∃ (k s : Nat) (p : PM), k < j ∧ σ.ps[k]? = some (some p) ∧ p.U.testBit s = true ∧ hat σ a = some (k, s) ∧ 1048576 ≤ a ∧ a ≤ 1050624
  | 0, a, ha => by simp [allOf] at ha
  | j + 1, a, ha => by
    rw [allOf, List.mem_append] at ha
    rcases ha with ha | ha
    · obtain ⟨k, s, p, h1, h2⟩ := allOf_is h j a ha
      exact ⟨k, s, p, by omega, h2⟩
    · unfold begins at ha
      split at ha
      · cases ha
      · rename_i p hg
        obtain ⟨s, hs, rfl⟩ := List.mem_map.1 ha
        obtain ⟨q, hq⟩ := mem_at hs
        obtain ⟨hb, _⟩ := bl_at hq
        obtain ⟨j', hj', hp⟩ := get_some hg
        obtain rfl : j = j' := by omega
        have hpg := h.ar.page _ p hp
        have hsn := hpg.1.inU s hb
        obtain ⟨z, hz⟩ : ∃ z : Nat, Cls.csz p.c = (z : Int) := ⟨(Cls.csz p.c).toNat, by have := (Cls.csz_bd p.c).1; omega⟩
        have hat := hat_at h hp hsn hb hz
        obtain ⟨g1, g2, g3, g4, g5, g6, g7⟩ := slot_at h.ar hp hsn hb hz
        have hw := h.ar.hw
        have hn := h.ar.hn
        rw [g1]
        exact ⟨j, s, p, by omega, hp, hb, hat, by omega, by omega⟩
/-- The addresses of the Grey ones. -/
def greyOf (σ : HS) : List Int := (allOf σ.ps σ.ps.length).filter fun a => col σ a == 1
theorem filter_take {l : List Int} {f : Int → Bool} {m : Nat} {x : Int} (h : l[m]? = some x) : (l.take (m + 1)).filter f = (l.take m).filter f ++ (if f x then [x] else []) := by
  rw [take_one h, List.filter_append]
  cases hf : f x <;> simp [hf]
end Go.Proofs.YtfgpadkoonogpaaDoor.Hp

namespace Go.Proofs.YtfgpadkoonogpaaDoor.Hp
open Go.RowKit Pg Ar Tm
set_option linter.unusedSimpArgs false
set_option linter.unusedVariables false

/-- An object as it stands in a list: its address, shape, serial, fields' slice, mark. -/
abbrev OC := Int × Int × Int × (Option Addr × Nat × Nat) × Bool
def ocs (o : OC) : List Value := [.int .i64 o.1, .int .i64 o.2.1, .int .i64 o.2.2.1, .slice o.2.2.2.1.1 o.2.2.2.1.2.1 o.2.2.2.1.2.2, .bool o.2.2.2.2]
def ObIs (ls : List (List Int)) (σ : HS) (a : Int) (o : OC) : Prop := o.1 = a ∧ ∃ (k s : Nat) (t : Thing), hat σ a = some (k, s) ∧ σ.M k s = some t ∧ o.2.1 = t.1 ∧ o.2.2.1 = t.2.1 ∧ o.2.2.2.1.2.1 = nfl ls σ k s ∧ o.2.2.2.2 = (t.2.2 != 0)
/-- The list of the objects that begin at L. -/
def ObsIs (ls : List (List Int)) (σ : HS) : List Int → List OC → Prop
  | [], [] => True
  | a :: L, o :: os => ObIs ls σ a o ∧ ObsIs ls σ L os
  | _, _ => False
theorem obs_len {ls : List (List Int)} {σ : HS} : ∀ {L : List Int} {os : List OC}, ObsIs ls σ L os → os.length = L.length
  | [], [], _ => rfl
  | a :: L, o :: os, h => by rw [List.length_cons, List.length_cons, obs_len h.2]
  | [], _ :: _, h => h.elim
  | _ :: _, [], h => h.elim
theorem obs_add {ls : List (List Int)} {σ : HS} {a : Int} {o : OC} (ho : ObIs ls σ a o) : ∀ {L : List Int} {os : List OC}, ObsIs ls σ L os → ObsIs ls σ (L ++ [a]) (os ++ [o])
  | [], [], _ => ⟨ho, trivial⟩
  | _ :: _, _ :: _, h => ⟨h.1, obs_add ho h.2⟩
  | [], _ :: _, h => h.elim
  | _ :: _, [], h => h.elim
theorem obs_at {ls : List (List Int)} {σ : HS} : ∀ {L : List Int} {os : List OC}, ObsIs ls σ L os → ∀ {i : Nat} {o : OC}, os[i]? = some o → ∃ a, L[i]? = some a ∧ ObIs ls σ a o
  | [], [], _, i, o, e => by simp at e
  | a :: L, o :: os, h, 0, o', e => by
    have e : some o = some o' := e
    injection e with e
    subst e
    exact ⟨a, rfl, h.1⟩
  | a :: L, o :: os, h, i + 1, o', e => obs_at h.2 (i := i) e
  | [], _ :: _, h, _, _, _ => h.elim
  | _ :: _, [], h, _, _, _ => h.elim
def ObjsI (ls : List (List Int)) (σ : HS) (w : World) (e : Ending) (w' : World) : Prop :=
  ∃ (os : List OC) (a : Option Addr) (c : Nat), e = .returned (.slice a os.length c) ∧ ObsIs ls σ (allOf σ.ps σ.ps.length) os ∧ w'.ownsRow w.heap.size 68 5 (.slice a os.length c) os.length (os.flatMap ocs) ∧ Below w.heap.size w w'
theorem infoOb : (Tryd.prog.info? 68).map (fun i => (i.zero, i.size, i.bytes)) = some (some (.agg #[.int .i64 0, .int .i64 0, .int .i64 0, .slice none 0 0, .bool false]), 5, 56) := by kernel_rfl
theorem obs_snoc (os : List OC) (o : OC) : (os ++ [o]).flatMap ocs = os.flatMap ocs ++ ocs o := by simp [List.flatMap_append]
theorem blk_readsN {w : World} {b B n size : Nat} {cs : Array Value} {T : TypeId} {xs : List Value} (h : Blk w b cs T) (hB : b < B) (hx : cs.toList = xs) (hn : xs.length = n * size) (hm : n ≤ maxLen) : Reads w B size (some ⟨b, 0, none⟩) n n xs := by
  refine ⟨Nat.le_refl _, hm, hn, fun _ => ⟨b, 0, rfl, hB, fun j u hu => ?_⟩⟩
  rw [Nat.zero_add, h.cell j, ← hu, ← hx]
  simp
theorem blk_new {w : World} {n : Nat} (hs : w.heap.size = n) (cs : Array Value) (T : TypeId) : Blk (w.alloc (.cells cs T (0, 0))) n cs T := hs ▸ Blk.new w cs T
set_option maxHeartbeats 1000000 in
theorem objects_any (B : HB) (ls : List (List Int)) (σ : HS) (w : World) (h : HpAt w B ls σ) (hT : Tab w) :
    Calls Tryd.prog 43 #[.pointer (some ⟨B.b, 0, none⟩)] w (ObjsI ls σ w) := by
  obtain ⟨i0, hi0, hz0, hz1, hz2⟩ := info_parts infoOb
  have HI := Lib.hid (⟨hi0, hz0, hz1, hz2⟩ : Tryd.prog.info? 68 = some i0 ∧ i0.zero = some (.agg #[.int .i64 0, .int .i64 0, .int .i64 0, .slice none 0 0, .bool false]) ∧ i0.size = 5 ∧ i0.bytes = 56)
  have HT := Lib.hid hT
  have H := Lib.hid h
  have HA := Lib.hid (Ar.all_any _ _ _ _ _ w h.ar hT)
  have HIS := Lib.hid (allOf_is h σ.ps.length)
  have hlen := allOf_len σ.ps σ.ps.length
  have hn := h.ar.hn
  have hl2 : (allOf σ.ps σ.ps.length).length ≤ 2048 := by omega
  obtain ⟨e0, e1, e2, e3, e4⟩ := h.five
  unfold ObjsI
  generalize allOf σ.ps σ.ps.length = L at *
  clear hi0 hz0 hz1 hz2 hT h hlen hn
  go_enter Tryd.func43, Tryd.ntmps43
  go_wp2_with fail
  refine (none_any B ls σ _ H.out).mono ?_
  rintro e w1 ⟨rfl, rfl⟩
  dsimp only
  go_wp2_with fail
  refine HA.out.mono ?_
  rintro e w1 ⟨aL, cL, rfl, hoL, hbL⟩
  have HOL := Lib.hid hoL
  have HB1 := Lib.hid hbL
  clear hoL hbL e0 e1 e2 e3 e4
  dsimp only
  go_wp2_with fail
  go_loopw [3, 16] (fun v i wr => ∃ (m : Nat) (a' : Option Addr) (c' : Nat) (G : List OC), m ≤ L.length ∧ i = .int .i64 (m : Int) ∧ v = .slice a' G.length c' ∧ ObsIs ls σ (L.take m) G ∧
    wr.ownsRow w.heap.size 68 5 (.slice a' G.length c') G.length (G.flatMap ocs) ∧ Below w.heap.size w wr ∧
    wr.ownsRow w.heap.size 3 1 (.slice aL L.length cL) L.length (ints' L) ∧ (∀ k, (Value.slice a' G.length c').ownBlock = some k → ∀ g, (Value.slice aL L.length cL).ownBlock = some g → k ≠ g)) (fun _ i _ => L.length - (intOf i).toNat)
  case atStart => exact ⟨0, none, 0, [], Nat.zero_le _, rfl, rfl, trivial, World.ownsRow_nil _ _ _ _, HB1.out, HOL.out, fun k hk => by cases hk⟩
  case round =>
    obtain ⟨m, a', c', G, hm, rfl, rfl, hG, ho2, hb2, hol2, hv2⟩ := hrel
    have HO2 := Lib.hid ho2
    have HB2 := Lib.hid hb2
    have HOL2 := Lib.hid hol2
    have HV2 := Lib.hid hv2
    have HG := Lib.hid hG
    have hGl : G.length ≤ m := by rw [obs_len hG, List.length_take]; exact Nat.min_le_left _ _
    clear ho2 hb2 hol2 hv2 hG
    by_cases hlm : m < L.length
    · obtain ⟨x, hx⟩ : ∃ x, L[m]? = some x := ⟨L[m], List.getElem?_eq_getElem hlm⟩
      obtain ⟨g, rfl⟩ : ∃ g, aL = some ⟨g, 0, none⟩ := by
        rcases HOL2.out.2 with ⟨_, h⟩ | ⟨g, cap, _, h, _⟩
        · exfalso; omega
        · injection h with h3; exact ⟨g, h3⟩
      have hcell := HOL2.out.cells (g := g) rfl m (.int .i64 x) (by simp [ints', hx])
      rw [add_form] at hcell
      have hcell : wr.cell? ⟨g, m, none⟩ = some (.int .i64 x) := by simpa using hcell
      have hl3 : (m : Int) < (L.length : Int) := by omega
      obtain ⟨kx, sx, px, _, _, _, hhx, hxa, hxb⟩ := HIS.out x (List.mem_of_getElem? hx)
      have HHX := Lib.hid hhx
      have HX := Lib.hid (take_one hx)
      have H2 := Lib.hid (H.out.call HB2.out)
      clear hx hhx
      go_wp2_with fail
      refine (object_any B ls σ x _ H2.out (by omega)).mono ?_
      rintro e w3 (⟨h1, _⟩ | ⟨k', s', t, A, c, h1, h2, rfl, _, hb3⟩)
      · rw [HHX.out] at h1; cases h1
      have HOB := Lib.hid (show ObIs ls σ x (x, t.1, t.2.1, (A, nfl ls σ k' s', c), (t.2.2 != 0)) from ⟨rfl, k', s', t, h1, h2, rfl, rfl, rfl, rfl⟩)
      have HX1 := Lib.hid (show ObsIs ls σ (L.take (m + 1)) (G ++ [(x, t.1, t.2.1, (A, nfl ls σ k' s', c), (t.2.2 != 0))]) by rw [HX.out]; exact obs_add HOB.out HG.out)
      clear h1 h2
      generalize nfl ls σ k' s' = nf at *
      generalize (t.2.2 != 0) = mk at *
      generalize t.1 = sh at *
      generalize t.2.1 = se at *
      have HB3 := Lib.hid (fresh_alloc (fresh_call HB2.out hb3) (.cells #[.int .i64 x, .int .i64 sh, .int .i64 se, .slice A nf c, .bool mk] 68))
      have HO3 := Lib.hid ((own_block HO2.out fun k hk => hb3.block k (HO2.out.lt k hk).2).alloc (.cells #[.int .i64 x, .int .i64 sh, .int .i64 se, .slice A nf c, .bool mk] 68))
      have HOL3 := Lib.hid ((own_block HOL2.out fun k hk => hb3.block k (HOL2.out.lt k hk).2).alloc (.cells #[.int .i64 x, .int .i64 sh, .int .i64 se, .slice A nf c, .bool mk] 68))
      have hnew := Blk.new w3 #[.int .i64 x, .int .i64 sh, .int .i64 se, .slice A nf c, .bool mk] 68
      have q0 := hnew.cell 0
      have q1 := hnew.cell 1
      have q2 := hnew.cell 2
      have q3 := hnew.cell 3
      have q4 := hnew.cell 4
      have hz3 := hb3.size
      clear hb3 hcell
      dsimp only
      go_wp2_with (first
        | (at_builtin; go_loud (refine wpList_app _ rfl _ _ 88 rfl w.heap.size 68 i0 (.agg #[.int .i64 0, .int .i64 0, .int .i64 0, .slice none 0 0, .bool false]) 5 56 Tryd.underlying88 HI.out.1 HI.out.2.1 HI.out.2.2.1 HI.out.2.2.2 rfl (by decide) _ _ _ rfl (HO3.out.alloc _) (w3.heap.size + 2) _ 1 1 [.int .i64 x, .int .i64 sh, .int .i64 se, .slice A nf c, .bool mk] rfl (blk_readsN (n := 1) (size := 5) (blk_new (by rw [World.size_alloc]) _ _) (by omega) rfl rfl (by decide)) ?c1 ?c2 ?c3 ?c4 ?_))
        | fail)
      case c1 => intro u hu; simp at hu; rcases hu with rfl | rfl | rfl | rfl | rfl <;> rfl
      case c2 => unfold maxLen; omega
      case c3 => omega
      case c4 => have := HB3.out.size; (try simp only [World.size_alloc] at *); omega
      intro a4 c4 w4 ho4 hg4 hat4
      obtain ⟨o, ho⟩ : ∃ o : OC, ((x, sh, se, (A, nf, c), mk) : OC) = o := ⟨_, rfl⟩
      have hco : [Value.int .i64 x, .int .i64 sh, .int .i64 se, .slice A nf c, .bool mk] = ocs o := by rw [← ho]; rfl
      rw [hco] at ho4
      rw [ho] at HX1
      have hgl1 : (G ++ [o]).length = G.length + 1 := by simp
      have HO4 := Lib.hid (show w4.ownsRow w.heap.size 68 5 (.slice a4 (G ++ [o]).length c4) (G ++ [o]).length ((G ++ [o]).flatMap ocs) from by
        rw [obs_snoc, hgl1]; exact ho4)
      have HB4 := Lib.hid (show Below w.heap.size w w4 from (fresh_alloc HB3.out _).grown hg4 (by have := HB3.out.size; simp at this ⊢; omega) (fun k hk => (HO3.out.lt k hk).1))
      have HOL4 := Lib.hid (own_block (HOL3.out.alloc (.cells #[.int .i64 x, .int .i64 sh, .int .i64 se, .slice A nf c, .bool mk] 68)) fun k hk => hg4.block k (by have := (HOL3.out.lt k hk).2; simp at this ⊢; omega) (fun e => HV2.out k e.symm k hk rfl))
      have HV4 := Lib.hid (show ∀ k, (Value.slice a4 (G ++ [o]).length c4).ownBlock = some k → ∀ g', (Value.slice (some ⟨g, 0, none⟩) L.length cL).ownBlock = some g' → k ≠ g' from fun k hk g' hg' => by
        rw [hgl1] at hk
        rcases hat4 with e | e
        · exact HV2.out k (e.symm.trans hk) g' hg'
        · have h1 := (HOL3.out.lt g' hg').2
          have h2 : k = _ := Option.some.inj (hk.symm.trans e)
          simp at h1 h2
          have h3 := (HOL2.out.lt g' hg').2
          omega)
      clear ho4 hg4 hat4 hco q0 q1 q2 q3 q4 hnew
      go_wp2_with fail
      go_roundw
      case rel => exact ⟨m + 1, a4, c4, G ++ [o], by omega, by go_num, by rw [hgl1], HX1.out, HO4.out, HB4.out, HOL4.out, HV4.out⟩
      case measure => simp [intOf]; omega
    · obtain rfl : m = L.length := by omega
      have HEnd := Lib.hid (show ObsIs ls σ L G by have := HG.out; rw [List.take_length] at this; exact this)
      go_wp2_with fail
      go_ret
      exact ⟨G, a', c', rfl, HEnd.out, HO2.out, HB2.out⟩
end Go.Proofs.YtfgpadkoonogpaaDoor.Hp

namespace Go.Proofs.YtfgpadkoonogpaaDoor.Hp
open Go.RowKit Pg Ar Tm
set_option linter.unusedSimpArgs false
set_option linter.unusedVariables false

structure HW (w wr : World) (B : HB) (ls : List (List Int)) (σ : HS) : Prop where
  hp : HpAt wr B ls σ
  newy : w.heap.size ≤ B.y
  bel : Below w.heap.size w wr
  tab : Tab wr
namespace HW
variable {w wr w' : World} {B : HB} {ls : List (List Int)} {σ σ' : HS}
theorem call (h : HW w wr B ls σ) (hb : Below wr.heap.size wr w') : HW w w' B ls σ := ⟨h.hp.call hb, h.newy, fresh_call h.bel hb, h.tab.call hb⟩
theorem drewN (h : HW w wr B ls σ) (k : Nat) : HW w (wr.drewN k) B ls σ := h.call (below_drewN (Below.refl _ _) k)
theorem new (h : HW w wr B ls σ) : w.heap.size ≤ B.z := Nat.le_trans h.newy h.hp.yz
theorem foot_new (h : HW w wr B ls σ) {i : Nat} (hi : HFoot B σ i) : w.heap.size ≤ i := Nat.le_trans h.new (h.hp.new i hi)
theorem foot0 (h : HW w wr B ls σ) (h0 : 0 < w.heap.size) : ¬ Foot B.ba B.gp B.gw σ.ps 0 := fun e => by have := h.foot_new (.inr (.inr e)); omega
theorem step {S : Nat → Prop} (h : HW w wr B ls σ) (h0 : 0 < w.heap.size) (ha : HpAt w' B ls σ') (hk : Kept S wr w') (hS : ∀ i, S i → HFoot B σ i) : HW w w' B ls σ' :=
  ⟨ha, h.newy, h.bel.trans (hk.below h.bel.size (fun i hi e => by have := h.foot_new (hS i e); omega)), h.tab.kept hk (fun e => by have := h.foot_new (hS _ e); omega)⟩
end HW
theorem foot_b (B : HB) (σ : HS) : HFoot B σ B.b := .inl rfl
theorem foot_bm (B : HB) (σ : HS) : HFoot B σ B.bm := .inr (.inl rfl)
theorem foot_gp (B : HB) (σ : HS) : HFoot B σ B.gp := .inr (.inr (.inr (.inl rfl)))
theorem foot_gw (B : HB) (σ : HS) : HFoot B σ B.gw := .inr (.inr (.inr (.inr (.inl rfl))))
theorem foot_pg {B : HB} {σ : HS} {k : Nat} {p : PM} (h : σ.ps[k]? = some (some p)) : HFoot B σ p.b := .inr (.inr (.inr (.inr (.inr ⟨k, p, h, rfl⟩))))
theorem foot_al {B : HB} {σ : HS} {k : Nat} {p : PM} (h : σ.ps[k]? = some (some p)) : ∀ i, (i = B.b ∨ i = p.b ∨ i = B.gw ∨ i = B.bm) → HFoot B σ i := by
  rintro i (rfl | rfl | rfl | rfl)
  · exact foot_b B σ
  · exact foot_pg h
  · exact foot_gw B σ
  · exact foot_bm B σ
theorem foot_sw {B : HB} {σ : HS} {k : Nat} {p : PM} (h : σ.ps[k]? = some (some p)) : ∀ i, (i = p.b ∨ i = B.bm ∨ i = B.gp) → HFoot B σ i := by
  rintro i (rfl | rfl | rfl)
  · exact foot_pg h
  · exact foot_bm B σ
  · exact foot_gp B σ
theorem al_no {B : HB} {ls : List (List Int)} {σ : HS} {sh n : Nat} {bl : Bool} {w w' : World} {e : Ending} (h : Al B ls σ sh n bl w e w') (hF : Full σ.ps (Cls.cof n) σ.ps.length) : e = .returned (.tuple #[.int .i64 0, .int .i64 5]) ∧ HpAt w' B ls σ ∧ Below w.heap.size w w' := by
  rcases h with ⟨h1, _, h3, h4⟩ | ⟨k, p, s, z, h1, h2, h3, h4, h5, h6, h7, _⟩
  · exact ⟨h1, h3, h4⟩
  · have := hF k (List.getElem?_eq_some_iff.1 h3).1 p h3 h4 s h6
    rw [h7] at this; cases this
theorem al_is {B : HB} {ls : List (List Int)} {σ : HS} {sh n : Nat} {bl : Bool} {w w' : World} {e : Ending} (h : Al B ls σ sh n bl w e w') {k s z : Nat} {p : PM}
    (hk : σ.ps[k]? = some (some p)) (hc : p.c = Cls.cof n) (hF : Full σ.ps (Cls.cof n) k) (hs : s < p.n) (hU : p.U.testBit s = false) (hall : ∀ i, i < s → p.U.testBit i = true) (hz : Cls.csz p.c = (z : Int)) :
    e = .returned (.tuple #[.int .i64 (1048576 + 32 * k + s * z : Nat), .int .i64 0]) ∧ HpAt w' B ls (made σ k p s z sh n bl) ∧ Kept (fun i => i = B.b ∨ i = p.b ∨ i = B.gw ∨ i = B.bm) w w' := by
  rcases h with ⟨_, h1, _⟩ | ⟨k', p', s', z', he, h1, h2, h3, h4, h5, h6, h7, h8, h9⟩
  · have := h1 k (List.getElem?_eq_some_iff.1 hk).1 p hk hc s hs
    rw [hU] at this; cases this
  · have hkk : k = k' := by
      rcases Nat.lt_trichotomy k k' with hlt | rfl | hlt
      · have := h1 k hlt p hk hc s hs
        rw [hU] at this; cases this
      · rfl
      · have := hF k' hlt p' h2 h3 s' h5
        rw [h6] at this; cases this
    subst hkk
    have hpp : p = p' := Option.some.inj (Option.some.inj (hk.symm.trans h2))
    subst hpp
    have hss : s = s' := by
      rcases Nat.lt_trichotomy s s' with hlt | rfl | hlt
      · have := h7 s hlt
        rw [hU] at this; cases this
      · rfl
      · have := hall s' hlt
        rw [h6] at this; cases this
    subst hss
    have hzz : z = z' := by omega
    subst hzz
    exact ⟨he, h8, h9⟩
theorem fr_is {B : HB} {ls : List (List Int)} {σ : HS} {c : Int} {n : Nat} {w w' : World} {e : Ending} (h : Fr B ls σ c n w e w') {k : Nat} (hk : σ.ps[k]? = some none) (hF : ∀ i : Nat, i < k → σ.ps[i]? ≠ some none) :
    ∃ bp, e = .returned (.bool true) ∧ w.heap.size ≤ bp ∧ HpAt w' B ls { σ with ps := σ.ps.set k (some ⟨bp, c, n, 0, 0⟩) } ∧ Kept (fun i => i = B.gp) w w' := by
  rcases h with ⟨_, h1, _⟩ | ⟨k', bp, he, h1, h2, h3, h4, h5⟩
  · exact absurd hk (h1 k (List.getElem?_eq_some_iff.1 hk).1)
  · have hkk : k = k' := by
      rcases Nat.lt_trichotomy k k' with hlt | rfl | hlt
      · exact absurd hk (h2 k hlt)
      · rfl
      · exact absurd h1 (hF k' hlt)
    subst hkk
    exact ⟨bp, he, h3, h4, h5⟩
/-- Where nothing stands no object begins. -/
theorem hat_gone {w : World} {B : HB} {ls : List (List Int)} {σ : HS} (h : HpAt w B ls σ) {A : Int} (hn : ∀ k s : Nat, ∀ z : Nat, 0 < z → A - 1048576 = ((32 * k + s * z : Nat) : Int) → s * z < 32 → σ.M k s = none) : hat σ A = none := by
  rcases hh : hat σ A with _ | ⟨k, s⟩
  · rfl
  · obtain ⟨p, z, f, g, h1, h2, h3, h4, h5, h6, h7, h8, h9, h10, h11, h12, h13, h14, h15, h16, h17, h18, h19, h20, h21⟩ := hat_some h hh
    rw [hn k s z h7 (by rw [h14, h13, h12]) (by omega)] at h21
    cases h21
end Go.Proofs.YtfgpadkoonogpaaDoor.Hp

namespace Go.Proofs.YtfgpadkoonogpaaDoor.Hp
open Go.RowKit Pg Ar Tm
set_option linter.unusedSimpArgs false
set_option linter.unusedVariables false

theorem hat_addr {w : World} {B : HB} {ls : List (List Int)} {σ : HS} (h : HpAt w B ls σ) {a : Int} {k s : Nat} (e : hat σ a = some (k, s)) : base σ.ps k s = a ∧ ∃ p, σ.ps[k]? = some (some p) ∧ p.U.testBit s = true ∧ s < p.n := by
  obtain ⟨p, z, f, g, h1, h2, h3, h4, h5, _⟩ := hat_some h e
  refine ⟨?_, p, h3, h4, h5⟩
  unfold fbase at h2
  rw [h1] at h2
  exact h2
theorem hat_inj {w : World} {B : HB} {ls : List (List Int)} {σ : HS} (h : HpAt w B ls σ) {a b : Int} {q : Nat × Nat} (e : hat σ a = some q) (e' : hat σ b = some q) : a = b := (hat_addr h e).1.symm.trans (hat_addr h e').1
/-- The addresses of All are those where objects begin. -/
theorem obj_in {w : World} {B : HB} {ls : List (List Int)} {σ : HS} (h : HpAt w B ls σ) {a : Int} : a ∈ allOf σ.ps σ.ps.length ↔ ∃ q, hat σ a = some q := by
  constructor
  · intro ha
    obtain ⟨k, s, p, _, _, _, h4, _⟩ := allOf_is h _ a ha
    exact ⟨_, h4⟩
  · rintro ⟨⟨k, s⟩, e⟩
    obtain ⟨hb, p, hp, hU, hs⟩ := hat_addr h e
    have hn := (h.ar.page k p hp).1.hn
    have key : ∀ j, k < j → a ∈ allOf σ.ps j := by
      intro j
      induction j with
      | zero => intro hj; omega
      | succ j ih =>
        intro hj
        rw [allOf, List.mem_append]
        by_cases hkj : k < j
        · exact .inl (ih hkj)
        · obtain rfl : k = j := by omega
          refine .inr ?_
          rw [begins_lst hp]
          exact List.mem_map.2 ⟨s, Bit.sl_mem.2 ⟨by omega, hU⟩, hb⟩
    exact key _ (List.getElem?_eq_some_iff.1 hp).1
theorem begins_at {w : World} {B : HB} {ls : List (List Int)} {σ : HS} (h : HpAt w B ls σ) {j : Nat} {p : PM} (hp : σ.ps[j]? = some (some p)) {s : Nat} (hs : s ∈ Bit.bl p.U) : hat σ (base σ.ps j s) = some (j, s) := by
  have hU := (Bit.sl_mem.1 hs).2
  have hsn := (h.ar.page j p hp).1.inU s hU
  obtain ⟨z, hz⟩ : ∃ z : Nat, Cls.csz p.c = (z : Int) := ⟨(Cls.csz p.c).toNat, by have := (Cls.csz_bd p.c).1; omega⟩
  rw [(slot_at h.ar hp hsn hU hz).1]
  exact hat_at h hp hsn hU hz
theorem allOf_nodup {w : World} {B : HB} {ls : List (List Int)} {σ : HS} (h : HpAt w B ls σ) : ∀ j, (allOf σ.ps j).Pairwise (· ≠ ·)
  | 0 => List.Pairwise.nil
  | j + 1 => by
    rw [allOf, List.pairwise_append]
    refine ⟨allOf_nodup h j, ?_, fun a ha b hb e => ?_⟩
    · unfold begins
      split
      · exact List.Pairwise.nil
      · rename_i p hg
        obtain ⟨j', hj', hp⟩ := get_some hg
        obtain rfl : j = j' := by omega
        rw [List.pairwise_map]
        refine List.Pairwise.imp_of_mem ?_ (bl_nodup p.U)
        intro s s' hs hs' hne e
        have h1 := begins_at h hp hs
        have h2 := begins_at h hp hs'
        rw [e, h2] at h1
        injection h1 with h1
        injection h1 with _ h1
        exact hne h1.symm
    · subst e
      obtain ⟨k, s, p, hk, _, _, h4, _⟩ := allOf_is h j a ha
      unfold begins at hb
      split at hb
      · cases hb
      · rename_i p' hg
        obtain ⟨j', hj', hp⟩ := get_some hg
        obtain rfl : j = j' := by omega
        obtain ⟨s', hs', hbe⟩ := List.mem_map.1 hb
        have h1 := begins_at h hp hs'
        rw [hbe, h4] at h1
        injection h1 with h1
        injection h1 with h1 _
        omega
/-- How many objects there are. -/
def num (σ : HS) : Nat := (allOf σ.ps σ.ps.length).length
theorem num_of {w : World} {B : HB} {ls : List (List Int)} {σ : HS} (h : HpAt w B ls σ) {T : List Int} (hT : T.Pairwise (· ≠ ·)) (hm : ∀ a, a ∈ T ↔ ∃ q, hat σ a = some q) : num σ = T.length :=
  Nat.le_antisymm (Tm.nodup_len _ _ (allOf_nodup h _) fun a ha => (hm a).2 ((obj_in h).1 ha)) (Tm.nodup_len _ _ hT fun a ha => (obj_in h).2 ((hm a).1 ha))
/-- Each page of the one stands, of the same class, in the other. -/
def Sub (σ σ' : HS) : Prop := ∀ (k : Nat) (p : PM), σ.ps[k]? = some (some p) → ∃ p', σ'.ps[k]? = some (some p') ∧ p'.c = p.c
theorem Sub.refl (σ : HS) : Sub σ σ := fun k p h => ⟨p, h, rfl⟩
theorem Sub.trans {σ σ' σ'' : HS} (h : Sub σ σ') (h' : Sub σ' σ'') : Sub σ σ'' := fun k p hp => by
  obtain ⟨p', h1, h2⟩ := h k p hp
  obtain ⟨p'', h3, h4⟩ := h' k p' h1
  exact ⟨p'', h3, h4.trans h2⟩
theorem hat_sub {w w' : World} {B : HB} {ls : List (List Int)} {σ σ' : HS} (h : HpAt w B ls σ) (h' : HpAt w' B ls σ') (hs : Sub σ σ' ∨ Sub σ' σ) {a : Int} {k s : Nat} (e : hat σ a = some (k, s)) (hm : (σ'.M k s).isSome = true) : hat σ' a = some (k, s) := by
  obtain ⟨hb, p, hp, hU, hsn⟩ := hat_addr h e
  obtain ⟨p', hp', hU'⟩ := (h'.inv k s).1 hm
  have hc : p'.c = p.c := by
    rcases hs with hs | hs
    · obtain ⟨q, hq, hc⟩ := hs k p hp
      rw [hp'] at hq
      cases hq
      exact hc
    · obtain ⟨q, hq, hc⟩ := hs k p' hp'
      rw [hp] at hq
      cases hq
      exact hc.symm
  obtain ⟨z, hz⟩ : ∃ z : Nat, Cls.csz p.c = (z : Int) := ⟨(Cls.csz p.c).toNat, by have := (Cls.csz_bd p.c).1; omega⟩
  have hsn' := (h'.ar.page k p' hp').1.inU s hU'
  have h1 := (slot_at h.ar hp hsn hU hz).1
  have h2 := hat_at h' hp' hsn' hU' (by rw [hc]; exact hz)
  rw [← h1, hb] at h2
  exact h2
theorem sub_made {σ : HS} {k : Nat} {p : PM} (hk : σ.ps[k]? = some (some p)) (s z sh n : Nat) (bl : Bool) : Sub σ (made σ k p s z sh n bl) := by
  intro i q hq
  by_cases hi : i = k
  · subst hi
    rw [hk] at hq
    cases hq
    exact ⟨_, List.getElem?_set_self (List.getElem?_eq_some_iff.1 hk).1, rfl⟩
  · exact ⟨q, (List.getElem?_set_ne (fun e => hi e.symm)).trans hq, rfl⟩
theorem sub_fresh {σ : HS} {k : Nat} (hk : σ.ps[k]? = some none) (x : Option PM) : Sub σ { σ with ps := σ.ps.set k x } := by
  intro i q hq
  by_cases hi : i = k
  · subst hi
    rw [hk] at hq
    cases hq
  · exact ⟨q, (List.getElem?_set_ne (fun e => hi e.symm)).trans hq, rfl⟩
theorem sub_sweep {σ : HS} {k : Nat} {p : PM} (hk : σ.ps[k]? = some (some p)) {x : Option PM} (hx : ∀ q, x = some q → q.c = p.c) (M : Nat → Nat → Option Thing) : Sub { σ with ps := σ.ps.set k x, M := M } σ := by
  intro i q hq
  rcases set_some hq with ⟨rfl, rfl, _⟩ | ⟨_, h⟩
  · exact ⟨p, hk, (hx q rfl).symm⟩
  · exact ⟨q, h, rfl⟩
/-- An object more. -/
theorem al_num {w w' : World} {B : HB} {ls : List (List Int)} {σ : HS} {k : Nat} {p : PM} {s z sh n : Nat} {bl : Bool} (h : HpAt w B ls σ) (hp : σ.ps[k]? = some (some p)) (hz : Cls.csz p.c = (z : Int)) (hs : s < p.n) (hU : p.U.testBit s = false)
    (h' : HpAt w' B ls (made σ k p s z sh n bl)) :
    num (made σ k p s z sh n bl) = num σ + 1 ∧ hat (made σ k p s z sh n bl) ((1048576 + 32 * k + s * z : Nat) : Int) = some (k, s) ∧ (∀ a q, hat σ a = some q → hat (made σ k p s z sh n bl) a = some q) ∧ (σ.M k s = none) := by
  have hlt := (List.getElem?_eq_some_iff.1 hp).1
  have hset : (made σ k p s z sh n bl).ps[k]? = some (some ⟨p.b, p.c, p.n, ins p.U s, del p.M s⟩) := List.getElem?_set_self hlt
  have hat0 := hat_at h' hset hs (by rw [ins_bit]; simp) hz
  have hsub := sub_made hp s z sh n bl
  have hM : σ.M k s = none := by
    rcases hm : σ.M k s with _ | t
    · rfl
    · obtain ⟨q, hq, hq2⟩ := (h.inv k s).1 (by rw [hm]; rfl)
      rw [hp] at hq
      cases hq
      rw [hU] at hq2
      cases hq2
  have hkeep : ∀ a q, hat σ a = some q → hat (made σ k p s z sh n bl) a = some q := by
    rintro a ⟨k', s'⟩ e
    refine hat_sub h h' (.inl hsub) e ?_
    obtain ⟨_, q, hq, hq2, _⟩ := hat_addr h e
    show (put σ.M k s _ k' s').isSome = true
    unfold put
    split
    · rfl
    · exact (h.inv _ _).2 ⟨q, hq, hq2⟩
  have hnew : ∀ a, hat σ a ≠ some (k, s) := by
    intro a e
    obtain ⟨_, q, hq, hq2, _⟩ := hat_addr h e
    rw [hp] at hq
    cases hq
    rw [hU] at hq2
    cases hq2
  refine ⟨?_, hat0, hkeep, hM⟩
  rw [num_of h' (T := ((1048576 + 32 * k + s * z : Nat) : Int) :: allOf σ.ps σ.ps.length)]
  · rfl
  · refine List.Pairwise.cons (fun b hb e => ?_) (allOf_nodup h _)
    obtain ⟨q, hq⟩ := (obj_in h).1 hb
    have h1 := hkeep b q hq
    rw [← e, hat0] at h1
    injection h1 with h1
    exact hnew b (h1 ▸ hq)
  · intro a
    rw [List.mem_cons, obj_in h]
    constructor
    · rintro (rfl | ⟨q, hq⟩)
      · exact ⟨_, hat0⟩
      · exact ⟨q, hkeep a q hq⟩
    · rintro ⟨⟨k', s'⟩, e⟩
      by_cases hks : k' = k ∧ s' = s
      · obtain ⟨rfl, rfl⟩ := hks
        exact .inl (hat_inj h' e hat0)
      · refine .inr ⟨(k', s'), hat_sub h' h (.inr hsub) e ?_⟩
        obtain ⟨_, q, hq, hq2, _⟩ := hat_addr h' e
        have hm := (h'.inv _ _).2 ⟨q, hq, hq2⟩
        have hm : (put σ.M k s (some ((sh : Int), σ.sr + 1, if bl then 2 else 0)) k' s').isSome = true := hm
        unfold put at hm
        rw [if_neg hks] at hm
        exact hm
/-- A page more. -/
theorem fr_num {w w' : World} {B : HB} {ls : List (List Int)} {σ : HS} {k : Nat} {x : Option PM} (h : HpAt w B ls σ) (hk : σ.ps[k]? = some none) (h' : HpAt w' B ls { σ with ps := σ.ps.set k x }) :
    num { σ with ps := σ.ps.set k x } = num σ ∧ ∀ a q, hat σ a = some q → hat { σ with ps := σ.ps.set k x } a = some q := by
  have hsub := sub_fresh hk x
  have h1 : ∀ a q, hat σ a = some q → hat { σ with ps := σ.ps.set k x } a = some q := by
    rintro a ⟨k', s'⟩ e
    obtain ⟨_, q, hq, hq2, _⟩ := hat_addr h e
    exact hat_sub h h' (.inl hsub) e ((h.inv k' s').2 ⟨q, hq, hq2⟩)
  refine ⟨?_, h1⟩
  refine num_of h' (allOf_nodup h _) fun a => ?_
  rw [obj_in h]
  constructor
  · rintro ⟨q, e⟩
    exact ⟨q, h1 a q e⟩
  · rintro ⟨⟨k', s'⟩, e⟩
    obtain ⟨_, q, hq, hq2, _⟩ := hat_addr h' e
    exact ⟨_, hat_sub h' h (.inr hsub) e ((h'.inv k' s').2 ⟨q, hq, hq2⟩)⟩
theorem filter_not_len {α : Type} (f : α → Bool) : ∀ l : List α, (l.filter f).length + (l.filter fun x => !f x).length = l.length
  | [] => rfl
  | a :: l => by
    have ih := filter_not_len f l
    cases hf : f a <;> simp [hf] <;> omega
/-- What a sweep does to a page's things. -/
def sw1 : Option Thing → Option Thing
  | some t => if t.2.2 = 0 then none else some (t.1, t.2.1, 0)
  | none => none
theorem swM_in {w : World} {B : HB} {ls : List (List Int)} {σ : HS} (h : HpAt w B ls σ) {k : Nat} {p : PM} (hp : σ.ps[k]? = some (some p)) (i j : Nat) : swM σ.M k (Bit.bl p.U) i j = if i = k then sw1 (σ.M i j) else σ.M i j := by
  unfold swM
  by_cases hi : i = k
  · subst hi
    rw [if_pos rfl]
    by_cases hj : j ∈ Bit.bl p.U
    · rw [if_pos ⟨rfl, hj⟩]
      unfold sw1
      rcases σ.M i j with _ | t <;> rfl
    · rw [if_neg (fun e => hj e.2)]
      have hm : σ.M i j = none := by
        rcases hm : σ.M i j with _ | t
        · rfl
        · obtain ⟨q, hq, hq2⟩ := (h.inv i j).1 (by rw [hm]; rfl)
          rw [hp] at hq
          cases hq
          exact absurd (Bit.sl_mem.2 ⟨by have := (h.ar.page i p hp).1.inU j hq2; have := (h.ar.page i p hp).1.hn; omega, hq2⟩) hj
      rw [hm]
      rfl
  · rw [if_neg (fun e => hi e.1), if_neg hi]
/-- A sweep: what went and what stays is what was. -/
theorem sw_num {w w' : World} {B : HB} {ls : List (List Int)} {σ : HS} {k : Nat} {p : PM} {x : Option PM} (h : HpAt w B ls σ) (hp : σ.ps[k]? = some (some p)) (hx : ∀ q, x = some q → q.c = p.c)
    (h' : HpAt w' B ls { σ with ps := σ.ps.set k x, M := swM σ.M k (Bit.bl p.U) }) :
    num { σ with ps := σ.ps.set k x, M := swM σ.M k (Bit.bl p.U) } + goneN σ.M k (Bit.bl p.U) = num σ := by
  obtain ⟨σ', hσ'⟩ : ∃ σ' : HS, ({ σ with ps := σ.ps.set k x, M := swM σ.M k (Bit.bl p.U) } : HS) = σ' := ⟨_, rfl⟩
  have hsub : Sub σ' σ := hσ' ▸ sub_sweep hp hx _
  have hM : ∀ i j, σ'.M i j = if i = k then sw1 (σ.M i j) else σ.M i j := fun i j => by rw [← hσ']; exact swM_in h hp i j
  rw [hσ'] at h' ⊢
  have hsm : ∀ i j, (σ'.M i j).isSome = true → (σ.M i j).isSome = true := by
    intro i j hm
    rw [hM] at hm
    split at hm
    · rcases hh : σ.M i j with _ | t
      · rw [hh] at hm; cases hm
      · rfl
    · exact hm
  have hlen : num σ = (allOf σ'.ps σ'.ps.length ++ ((Bit.bl p.U).filter (white σ.M k)).map fun (s : Nat) => base σ.ps k s).length := by
    refine num_of h ?_ fun a => ?_
    · rw [List.pairwise_append]
      refine ⟨allOf_nodup h' _, ?_, fun a ha b hb e => ?_⟩
      · rw [List.pairwise_map]
        refine List.Pairwise.imp_of_mem ?_ ((bl_nodup p.U).sublist List.filter_sublist)
        intro s s' hs hs' hne e
        have h1 := begins_at h hp (List.mem_filter.1 hs).1
        have h2 := begins_at h hp (List.mem_filter.1 hs').1
        rw [e, h2] at h1
        injection h1 with h1
        injection h1 with _ h1
        exact hne h1.symm
      · subst e
        obtain ⟨s, hs, hbe⟩ := List.mem_map.1 hb
        obtain ⟨hs1, hs2⟩ := List.mem_filter.1 hs
        obtain ⟨⟨k', s'⟩, hq⟩ := (obj_in h').1 ha
        obtain ⟨_, q', hq', hq2', _⟩ := hat_addr h' hq
        have hm' := (h'.inv k' s').2 ⟨q', hq', hq2'⟩
        have h1 := hat_sub h' h (.inl hsub) hq (hsm _ _ hm')
        rw [← hbe, begins_at h hp hs1] at h1
        injection h1 with h1
        injection h1 with e1 e2
        subst e1 e2
        rw [hM, if_pos rfl] at hm'
        unfold white at hs2
        rcases hh : σ.M k s with _ | t
        · rw [hh] at hm'; cases hm'
        · rw [hh] at hm' hs2
          have h0 : t.2.2 = 0 := by simpa using hs2
          unfold sw1 at hm'
          simp [h0] at hm'
    · rw [List.mem_append, obj_in h']
      constructor
      · rintro (⟨⟨k', s'⟩, e⟩ | hb)
        · obtain ⟨_, q', hq', hq2', _⟩ := hat_addr h' e
          exact ⟨_, hat_sub h' h (.inl hsub) e (hsm _ _ ((h'.inv k' s').2 ⟨q', hq', hq2'⟩))⟩
        · obtain ⟨s, hs, hbe⟩ := List.mem_map.1 hb
          rw [← hbe]
          exact ⟨_, begins_at h hp (List.mem_filter.1 hs).1⟩
      · rintro ⟨⟨k', s'⟩, e⟩
        obtain ⟨hba, q, hq, hq2, hqs⟩ := hat_addr h e
        have hm := (h.inv k' s').2 ⟨q, hq, hq2⟩
        by_cases hm' : (σ'.M k' s').isSome = true
        · exact .inl ⟨_, hat_sub h h' (.inr hsub) e hm'⟩
        · refine .inr ?_
          rw [hM] at hm'
          by_cases hk : k' = k
          · subst hk
            rw [hp] at hq
            cases hq
            rw [if_pos rfl] at hm'
            refine List.mem_map.2 ⟨s', List.mem_filter.2 ⟨Bit.sl_mem.2 ⟨by have := (h.ar.page k' p hp).1.hn; omega, hq2⟩, ?_⟩, hba⟩
            unfold white
            rcases hh : σ.M k' s' with _ | t
            · rw [hh] at hm; cases hm
            · rw [hh] at hm'
              unfold sw1 at hm'
              by_cases h0 : t.2.2 = 0
              · simp [h0]
              · simp [h0] at hm'
          · rw [if_neg hk] at hm'
            exact absurd hm hm'
  rw [hlen, List.length_append, List.length_map]
  rfl
end Go.Proofs.YtfgpadkoonogpaaDoor.Hp
