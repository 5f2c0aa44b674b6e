/- Package heap: the contract of Object. -/
import Derived.Test.YtoajbjeiplolnaaDoorRHp6
import Derived.Test.YtoajbjeiplolnaaDoorRApp
import Derived.Test.YtoajbjeiplolnaaDoorRBook2
namespace Go.Proofs.YtoajbjeiplolnaaDoorR.Hp
open Go.RowKit Pg Ar Tm
set_option linter.unusedSimpArgs false
set_option linter.unusedVariables false

/-- The words of an object's fields. -/
def flds (ls : List (List Int)) (σ : HS) (addr : Int) (k s : Nat) : List Int := (List.range (nfl ls σ k s)).map fun (i : Nat) => σ.ws.getD (addr + (i : Int) - 1048576).toNat 0
theorem flds_len (ls : List (List Int)) (σ : HS) (addr : Int) (k s : Nat) : (flds ls σ addr k s).length = nfl ls σ k s := by simp [flds]
def ObjIs (ls : List (List Int)) (σ : HS) (addr : Int) (w : World) (e : Ending) (w' : World) : Prop :=
  (hat σ addr = none ∧ e = .returned (.tuple #[.agg #[.int .i64 0, .int .i64 0, .int .i64 0, .slice none 0 0, .bool false], .bool false]) ∧ Below w.heap.size w w') ∨
  (∃ (k s : Nat) (t : Thing) (a : Option Addr) (c : Nat), hat σ addr = some (k, s) ∧ σ.M k s = some t ∧ e = .returned (.tuple #[.agg #[.int .i64 addr, .int .i64 t.1, .int .i64 t.2.1, .slice a (nfl ls σ k s) c, .bool (t.2.2 != 0)], .bool true]) ∧
    w'.ownsRow w.heap.size 3 1 (.slice a (nfl ls σ k s) c) (nfl ls σ k s) ((flds ls σ addr k s).map (.int .i64)) ∧ Below w.heap.size w w')
set_option maxRecDepth 100000 in
set_option maxHeartbeats 1000000 in
theorem object_none (B : HB) (ls : List (List Int)) (σ : HS) (addr : Int) (w : World) (h : HpAt w B ls σ) (ha : addr ≤ 9223372036854775807) (hh : hat σ addr = none) :
    Calls Tryd.prog 40 #[.pointer (some ⟨B.b, 0, none⟩), .int .i64 addr] w (ObjIs ls σ addr w) := by
  have H := Lib.hid h
  have H1 := Lib.hid (h.call (fresh_alloc (Below.refl _ _) (.cells #[.int .i64 0, .int .i64 0, .int .i64 0, .slice none 0 0, .bool false] 68)))
  have HR := Lib.hid (Blk.new w #[.int .i64 0, .int .i64 0, .int .i64 0, .slice none 0 0, .bool false] 68)
  have HBE := Lib.hid (fresh_alloc (Below.refl w.heap.size w) (.cells #[.int .i64 0, .int .i64 0, .int .i64 0, .slice none 0 0, .bool false] 68))
  have HH := Lib.hid hh
  clear h hh
  go_enter Tryd.func40, Tryd.ntmps40
  go_wp2_with fail
  refine (at_any B ls σ addr _ H1.out ha).mono ?_
  rw [HH.out]
  rintro e w1 ⟨rfl, hb⟩
  have HR1 := Lib.hid (HR.out.call hb)
  have HB1 := Lib.hid (fresh_call HBE.out hb)
  clear hb
  have l4 := HR1.out.lt
  have r0 := HR1.out.free 0
  have r1 := HR1.out.free 1
  have r2 := HR1.out.free 2
  have r3 := HR1.out.free 3
  have r4 := HR1.out.free 4
  have q0 : w1.cell? ⟨w.heap.size, 0, none⟩ = some (.int .i64 0) := HR1.out.cell 0
  have q1 : w1.cell? ⟨w.heap.size, 1, none⟩ = some (.int .i64 0) := HR1.out.cell 1
  have q2 : w1.cell? ⟨w.heap.size, 2, none⟩ = some (.int .i64 0) := HR1.out.cell 2
  have q3 : w1.cell? ⟨w.heap.size, 3, none⟩ = some (.slice none 0 0) := HR1.out.cell 3
  have q4 : w1.cell? ⟨w.heap.size, 4, none⟩ = some (.bool false) := HR1.out.cell 4
  dsimp only [atv]
  go_wp2_with fail
  have hr := Blk.of_eq ((((((HR1.out.set 0 (.int .i64 0)).set 1 (.int .i64 0)).set 2 (.int .i64 0)).set 3 (.slice none 0 0)).set 4 (.bool false)).alloc (.cells #[.int .i64 0, .int .i64 0] 138)) (cs' := #[.int .i64 0, .int .i64 0, .int .i64 0, .slice none 0 0, .bool false]) rfl
  try simp only [Exit.inBlock, Exit.then]
  refine bodyPost_ret (results_cell2 rfl _ _ _ _ _ _ hr Tryd.underlying68 (by kernel_rfl) rfl) rfl ?_
  exact Or.inl ⟨HH.out, rfl, fresh_alloc (((((HB1.out.setCell (p := ⟨w.heap.size, 0, none⟩) (Nat.le_refl _) _).setCell (p := ⟨w.heap.size, 1, none⟩) (Nat.le_refl _) _).setCell (p := ⟨w.heap.size, 2, none⟩) (Nat.le_refl _) _).setCell (p := ⟨w.heap.size, 3, none⟩) (Nat.le_refl _) _).setCell (p := ⟨w.heap.size, 4, none⟩) (Nat.le_refl _) _) _⟩
set_option maxRecDepth 100000 in
set_option maxHeartbeats 1000000 in
theorem object_some (B : HB) (ls : List (List Int)) (σ : HS) (addr : Int) (k s : Nat) (w : World) (h : HpAt w B ls σ) (ha : addr ≤ 9223372036854775807) (hh : hat σ addr = some (k, s)) :
    Calls Tryd.prog 40 #[.pointer (some ⟨B.b, 0, none⟩), .int .i64 addr] w (ObjIs ls σ addr w) := by
  have H := Lib.hid h
  have H1 := Lib.hid (h.call (fresh_alloc (Below.refl _ _) (.cells #[.int .i64 0, .int .i64 0, .int .i64 0, .slice none 0 0, .bool false] 68)))
  have HR := Lib.hid (Blk.new w #[.int .i64 0, .int .i64 0, .int .i64 0, .slice none 0 0, .bool false] 68)
  have HBE := Lib.hid (fresh_alloc (Below.refl w.heap.size w) (.cells #[.int .i64 0, .int .i64 0, .int .i64 0, .slice none 0 0, .bool false] 68))
  obtain ⟨p, z, h1, h2, h3, h4, h5, h6⟩ := slot_inside h hh
  obtain ⟨hk, hs, t, ht⟩ := hat_bd h hh
  obtain ⟨j, l, hj, hl, hn, hl1, hl2⟩ := nfl_is h ht h1
  obtain ⟨t1, se, co⟩ := t
  dsimp only at hj
  subst hj
  have hw := h.ar.hw
  have hn64 := h.ar.hn
  have HSL := Lib.hid (show ∀ i : Nat, i < nfl ls σ k s → slot σ.ps (addr + i) = some (k, p, s) from fun i hi => h6 i (by omega))
  have hnb : nfl ls σ k s ≤ 16 := by have := Cls.csz_bd p.c; omega
  have hab : addr < 1048576 + 2048 := by omega
  have hab0 : 1048576 ≤ addr := by omega
  obtain ⟨N, hN⟩ : ∃ N, nfl ls σ k s = N := ⟨_, rfl⟩
  have HH := Lib.hid hh
  have HT := Lib.hid ht
  have HK := Lib.hid hk
  have HS2 := Lib.hid hs
  have HL := Lib.hid hl
  have HN := Lib.hid hN
  rw [hN] at HSL hnb hn
  have HLN := Lib.hid hn
  have hjl : j < ls.length := (List.getElem?_eq_some_iff.1 hl).1
  have hjl2 : (j : Int) < (ls.length : Int) := by omega
  have hj0 : (0 : Int) ≤ (j : Int) := by omega
  clear h h1 h2 h3 h4 h5 h6 hh hk hs ht hl hn hl1 hl2 hw hn64 hN
  go_enter Tryd.func40, Tryd.ntmps40
  go_wp2_with fail
  refine (at_any B ls σ addr _ H1.out ha).mono ?_
  rw [HH.out]
  rintro e w1 ⟨rfl, hb⟩
  have HR1 := Lib.hid ((HR.out.call hb).alloc (.cells #[.int .i64 k, .int .i64 s] 138))
  have HB1 := Lib.hid (fresh_alloc (fresh_call HBE.out hb) (.cells #[.int .i64 k, .int .i64 s] 138))
  have hN := Blk.new w1 #[.int .i64 k, .int .i64 s] 138
  clear hb
  dsimp only [atv]
  go_wp2_with fail
  generalize w1.alloc (.cells #[.int .i64 k, .int .i64 s] 138) = W3 at *
  obtain ⟨bp, hbp⟩ : ∃ bp, w1.heap.size = bp := ⟨_, rfl⟩
  obtain ⟨br, hbr⟩ : ∃ br, w.heap.size = br := ⟨_, rfl⟩
  rw [hbp] at hN ⊢
  rw [hbr] at HR1 ⊢
  have HBR := Lib.hid hbr
  clear hbp hbr
  have H3 := Lib.hid (H.out.call HB1.out)
  obtain ⟨d0, d1, -, -⟩ := hN.two
  obtain ⟨e0, e1, e2, e3, e4⟩ := H3.out.five
  have l0 := H3.out.blk.lt
  have l1 := hN.lt
  clear hN
  go_upto_region 4 with (fail)
  go_cut [8] from 22 to 27 (fun p wx => ∃ bt, p = .pointer (some ⟨bt, 0, none⟩) ∧ Blk wx bt #[.int .i64 (j : Int), .int .i64 se, .int .i64 co] 136 ∧ Below W3.heap.size W3 wx)
  case first =>
    have hl1 := look_ext H3.out.mp HK.out HS2.out HT.out ⟨W3.drew, (Below.refl _ _).drew⟩
    have hl2 := look_ext H3.out.mp HK.out HS2.out HT.out ⟨(W3.alloc (.cells #[.int .i64 0, .int .i64 0, .int .i64 0] 136)).drew, (fresh_alloc (Below.refl _ _) _).drew⟩
    dsimp only at hl1 hl2
    go_region_with (fail)
    all_goals
      go_wp2_with fail
      go_meet
      exact ⟨W3.heap.size, rfl, Blk.new W3 _ _, (fresh_alloc (Below.refl _ _) _).drew⟩
  case rest =>
    obtain ⟨bt, rfl, hbl, hbe⟩ := hcut
    have H4 := Lib.hid (H3.out.call hbe)
    have HR4 := Lib.hid (HR1.out.call hbe)
    have HT4 := Lib.hid hbl
    have HB4 := Lib.hid (fresh_call HB1.out hbe)
    have l2 := hbl.lt
    obtain ⟨t0, t1, t2, -, -, -⟩ := hbl.three
    clear hbl hbe d0 d1 e0 e1 e2 e3 e4 H3 HR1 l0 l1
    go_wp2_with fail
    have H6 := Lib.hid (H4.out.call (fresh_alloc (Below.refl _ _) (.cells #[.int .i64 addr, .int .i64 (j : Int), .int .i64 se, .slice none 0 0, .bool (co != 0)] 68)))
    have HR6 := Lib.hid (HR4.out.alloc (.cells #[.int .i64 addr, .int .i64 (j : Int), .int .i64 se, .slice none 0 0, .bool (co != 0)] 68))
    have HT6 := Lib.hid (HT4.out.alloc (.cells #[.int .i64 addr, .int .i64 (j : Int), .int .i64 se, .slice none 0 0, .bool (co != 0)] 68))
    have HO6 := Lib.hid (Blk.new wc #[.int .i64 addr, .int .i64 (j : Int), .int .i64 se, .slice none 0 0, .bool (co != 0)] 68)
    have HB6 := Lib.hid (HB4.out.alloc HB4.out.size (.cells #[.int .i64 addr, .int .i64 (j : Int), .int .i64 se, .slice none 0 0, .bool (co != 0)] 68))
    have hbo : w.heap.size < wc.heap.size := by have := HR4.out.lt; have := HBR.out; omega
    clear l2 t0 t1 t2 H4 HR4 HT4 HB4
    generalize wc.alloc (.cells #[.int .i64 addr, .int .i64 (j : Int), .int .i64 se, .slice none 0 0, .bool (co != 0)] 68) = W6 at *
    obtain ⟨bo, hbo2⟩ : ∃ bo, wc.heap.size = bo := ⟨_, rfl⟩
    rw [hbo2] at HO6 hbo ⊢
    clear hbo2
    obtain ⟨t0, t1, t2, -, -, -⟩ := HT6.out.three
    obtain ⟨e0, e1, e2, e3, e4⟩ := H6.out.five
    have l0 := H6.out.blk.lt
    have l1 := HT6.out.lt
    obtain ⟨sb, off, A', c', hSA, hsb, hsc⟩ := rs_at H6.out.sh HL.out
    rw [hSA] at e1
    have hsz : sb < W6.heap.size := by have := H6.out.z_lt; omega
    clear hSA
    refine Ext.region W6 (by kernel_rfl) (by kernel_rfl) (Below.refl _ _) ?_
    repeat (first | (go_big_quiet_step (fail)))
    refine wpQuiet_nil ?_
    rintro _ ⟨x, rfl⟩
    have H7 := Lib.hid (H6.out.call x.below)
    have HR7 := Lib.hid (HR6.out.call x.below)
    have HO7 := Lib.hid (HO6.out.call x.below)
    have HB7 := Lib.hid (fresh_call HB6.out x.below)
    clear t0 t1 t2 e0 e1 e2 e3 e4 l0 l1 hsb hsc hsz H6 HR6 HO6 HB6 HT6
    generalize x.w = W7 at *
    rw [← HLN.out]
    have HI := Lib.hid (info_parts Book.infoI)
    obtain ⟨FL, hFL⟩ : ∃ FL, flds ls σ addr k s = FL := ⟨_, rfl⟩
    have HFL := Lib.hid (show FL.length = N by rw [← hFL, flds_len]; exact HN.out)
    have HFV := Lib.hid (show ∀ q : Nat, q < N → FL[q]? = some (Ar.fword σ.ps σ.ws (addr + q)) from fun q hq => by
      rw [← hFL]
      unfold flds
      rw [HN.out]
      unfold fword
      rw [HSL.out q hq]
      simp [hq])
    have HFE := Lib.hid hFL
    clear hFL
    go_wp2_with fail
    go_loopw [47] (fun i wr => ∃ (q : Nat) (a : Option Addr) (c : Nat), q ≤ N ∧ i = .int .i64 (q : Int) ∧ Blk wr bo #[.int .i64 addr, .int .i64 (j : Int), .int .i64 se, .slice a q c, .bool (co != 0)] 68 ∧
      wr.ownsRow w.heap.size 3 1 (.slice a q c) q ((FL.take q).map (.int .i64)) ∧ HpAt wr B ls σ ∧ Blk wr br #[.int .i64 0, .int .i64 0, .int .i64 0, .slice none 0 0, .bool false] 68 ∧ Below w.heap.size w wr) (fun i _ => N - (intOf i).toNat)
    case atStart => exact ⟨0, none, 0, Nat.zero_le _, rfl, HO7.out, World.ownsRow_nil _ _ _ _, H7.out, HR7.out, HB7.out⟩
    case round =>
      obtain ⟨q, a, c, hq, rfl, hbo1, how, hhp, hbr1, hbel⟩ := hrel
      have HO8 := Lib.hid hbo1
      have HW8 := Lib.hid how
      have H8 := Lib.hid hhp
      have HR8 := Lib.hid hbr1
      have HB8 := Lib.hid hbel
      obtain ⟨e0, e1, e2, e3, e4⟩ := hhp.five
      clear hbo1 how hhp hbr1 hbel H7 HO7 HR7 HB7
      by_cases hlt : q < N
      · have hlt2 : (q : Int) < (N : Int) := by omega
        have hx : wrap64 (addr + q) = addr + q := wrap64_id (by omega)
        have HV := Lib.hid (HFV.out q hlt)
        have HS1 := Lib.hid (show (slot σ.ps (addr + q)).isSome = true by rw [HSL.out q hlt]; rfl)
        have hlim : addr + (q : Int) ≤ 9223372036854775807 := by omega
        go_wp2_with (simp only [hx])
        refine (Ar.load_any _ _ _ _ _ (addr + q) _ H8.out.ar hlim).mono ?_
        rw [HS1.out]
        rintro e w2 ⟨rfl, d, rfl⟩
        obtain ⟨v, hv⟩ : ∃ v, fword σ.ps σ.ws (addr + q) = v := ⟨_, rfl⟩
        rw [hv] at HV ⊢
        clear hv e0 e1 e2 e3 e4
        have HO9 := Lib.hid (HO8.out.drewN d)
        have HW9 := Lib.hid (show (wr.drewN d).ownsRow w.heap.size 3 1 (.slice a q c) q ((FL.take q).map (.int .i64)) from HW8.out)
        have H9 := Lib.hid (H8.out.drewN d)
        have HR9 := Lib.hid (HR8.out.drewN d)
        have HB9 := Lib.hid (below_drewN HB8.out d)
        clear HO8 HW8 H8 HR8 HB8
        generalize wr.drewN d = w2 at *
        have c3 : w2.cell? ⟨bo, 3, none⟩ = some (.slice a q c) := HO9.out.cell 3
        have f3 := HO9.out.free 3
        have lbo := HO9.out.lt
        have HNE := Lib.hid (own_ne HW9.out HO9.out (by decide))
        have HNR := Lib.hid (own_ne HW9.out HR9.out (by decide))
        have HSZ := Lib.hid HB9.out.size
        dsimp only
        go_wp2_with (first
          | (at_builtin; go_loud (refine wpList_app _ rfl _ _ 27 rfl w.heap.size 3 HI.out.choose (.int .i64 0) 1 8 Tryd.underlying27 HI.out.choose_spec.1 HI.out.choose_spec.2.1 HI.out.choose_spec.2.2.1 HI.out.choose_spec.2.2.2 rfl (by decide) _ _ _ rfl (HW9.out.alloc _) (w2.heap.size + 1) _ 1 1 [.int .i64 v] rfl (Blk.reads (Blk.new w2 _ _) (by simp) rfl rfl (by decide)) ?c1 ?c2 ?c3 ?c4 ?_))
          | fail)
        case c1 => intro u hu; simp at hu; subst hu; rfl
        case c2 => unfold maxLen; omega
        case c3 => omega
        case c4 => have := HSZ.out; simp; omega
        intro a' c'' w3 ho3 hg3 hat3
        have hb3 : Below w.heap.size w w3 := (HB9.out.alloc HSZ.out _).grown hg3 (by have := HSZ.out; simp; omega) (fun k hk => (HW9.out.lt k hk).1)
        have ho3' : Blk w3 bo _ _ := (hg3.block bo (by simp; omega) HNE.out).trans (HO9.out.alloc _)
        have hr3 : Blk w3 br _ _ := (hg3.block br (by have := HR9.out.lt; simp; omega) HNR.out).trans (HR9.out.alloc _)
        have h3 : HpAt w3 B ls σ := H.out.call hb3
        have HT3 := Lib.hid (FL.take_add_one (i := q))
        have hown : w3.ownsRow w.heap.size 3 1 (.slice a' (q + 1) c'') (q + 1) ((FL.take (q + 1)).map (.int .i64)) := by
          rw [HT3.out, HV.out]
          simpa using ho3
        have HO3 := Lib.hid ho3'
        have HR3 := Lib.hid hr3
        have HOW3 := Lib.hid hown
        have HB3 := Lib.hid hb3
        have HNE3 := Lib.hid (own_ne hown ho3' (by decide))
        have f3' := ho3'.free 3
        have c3' : w3.cell? ⟨bo, 3, none⟩ = some (.slice a q c) := ho3'.cell 3
        have lbo3 := ho3'.lt
        clear ho3 hg3 hat3 hb3 ho3' hr3 hown h3 c3 f3 lbo
        go_wp2_with fail
        go_roundw
        case rel => exact ⟨q + 1, a', c'', by omega, by go_num, Blk.of_eq (HO3.out.set 3 _) rfl, own_block HOW3.out (fun m e => Below.heap_setCell w3 ⟨bo, 3, none⟩ _ m (fun e' => HNE3.out (by rw [e, e']))), H.out.call (HB3.out.setCell (p := ⟨bo, 3, none⟩) (by have := HBR.out; show w.heap.size ≤ bo; omega) _), (Below.heap_setCell w3 ⟨bo, 3, none⟩ _ br (by have := HBR.out; show br ≠ bo; omega)).trans HR3.out, HB3.out.setCell (p := ⟨bo, 3, none⟩) (by have := HBR.out; show w.heap.size ≤ bo; omega) _⟩
        case measure => simp [intOf]; omega
      · obtain rfl : q = N := by omega
        have hlt2 : ¬ (q : Int) < (q : Int) := by omega
        have o0 : wr.cell? ⟨bo, 0, none⟩ = some (.int .i64 addr) := HO8.out.cell 0
        have o1 : wr.cell? ⟨bo, 1, none⟩ = some (.int .i64 (j : Int)) := HO8.out.cell 1
        have o2 : wr.cell? ⟨bo, 2, none⟩ = some (.int .i64 se) := HO8.out.cell 2
        have o3 : wr.cell? ⟨bo, 3, none⟩ = some (.slice a q c) := HO8.out.cell 3
        have o4 : wr.cell? ⟨bo, 4, none⟩ = some (.bool (co != 0)) := HO8.out.cell 4
        have r0 : wr.cell? ⟨br, 0, none⟩ = some (.int .i64 0) := HR8.out.cell 0
        have r1 : wr.cell? ⟨br, 1, none⟩ = some (.int .i64 0) := HR8.out.cell 1
        have r2 : wr.cell? ⟨br, 2, none⟩ = some (.int .i64 0) := HR8.out.cell 2
        have r3 : wr.cell? ⟨br, 3, none⟩ = some (.slice none 0 0) := HR8.out.cell 3
        have r4 : wr.cell? ⟨br, 4, none⟩ = some (.bool false) := HR8.out.cell 4
        have f0 := HR8.out.free 0
        have f1 := HR8.out.free 1
        have f2 := HR8.out.free 2
        have f3 := HR8.out.free 3
        have f4 := HR8.out.free 4
        have HNR := Lib.hid (own_ne HW8.out HR8.out (by decide))
        have hne : ∀ (W : World) (i : Nat) (u : Value) (m : Nat), (Value.slice a q c).ownBlock = some m → (W.setCell ⟨br, i, none⟩ u).heap[m]? = W.heap[m]? := fun W i u m e => Below.heap_setCell W ⟨br, i, none⟩ u m (fun e' => HNR.out (by rw [e, e']))
        have HNE := Lib.hid hne
        clear hne
        clear e0 e1 e2 e3 e4
        go_wp2_with fail
        have hr := Blk.of_eq (((((HR8.out.set 0 (.int .i64 addr)).set 1 (.int .i64 (j : Int))).set 2 (.int .i64 se)).set 3 (.slice a q c)).set 4 (.bool (co != 0))) (cs' := #[.int .i64 addr, .int .i64 (j : Int), .int .i64 se, .slice a q c, .bool (co != 0)]) rfl
        try simp only [Exit.inBlock, Exit.then]
        refine bodyPost_ret (results_cell2 rfl _ _ _ _ _ _ hr Tryd.underlying68 (by kernel_rfl) rfl) rfl ?_
        have hfl : FL.take q = FL := List.take_of_length_le (by have := HFL.out; omega)
        refine Or.inr ⟨k, s, ((j : Int), se, co), a, c, HH.out, HT.out, by rw [HN.out]; rfl, ?_, ?_⟩
        · rw [HN.out, HFE.out]
          have h8 := HW8.out
          rw [hfl] at h8
          exact own_block (own_block (own_block (own_block (own_block h8 (HNE.out _ _ _)) (HNE.out _ _ _)) (HNE.out _ _ _)) (HNE.out _ _ _)) (HNE.out _ _ _)
        · have hz : w.heap.size ≤ br := by have := HBR.out; omega
          exact ((((HB8.out.setCell (p := ⟨br, 0, none⟩) hz _).setCell (p := ⟨br, 1, none⟩) hz _).setCell (p := ⟨br, 2, none⟩) hz _).setCell (p := ⟨br, 3, none⟩) hz _).setCell (p := ⟨br, 4, none⟩) hz _
theorem object_any (B : HB) (ls : List (List Int)) (σ : HS) (addr : Int) (w : World) (h : HpAt w B ls σ) (ha : addr ≤ 9223372036854775807) :
    Calls Tryd.prog 40 #[.pointer (some ⟨B.b, 0, none⟩), .int .i64 addr] w (ObjIs ls σ addr w) := by
  rcases hh : hat σ addr with _ | ⟨k, s⟩
  · exact object_none B ls σ addr w h ha hh
  · exact object_some B ls σ addr k s w h ha hh
end Go.Proofs.YtoajbjeiplolnaaDoorR.Hp
