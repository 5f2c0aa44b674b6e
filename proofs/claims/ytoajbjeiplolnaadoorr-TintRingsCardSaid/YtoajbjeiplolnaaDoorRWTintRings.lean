/- The walk of besomlaw20.TintRings: it returns true, and writes nothing that was there. -/
import Derived.Test.YtoajbjeiplolnaaDoorRTb
namespace Go.Proofs.YtoajbjeiplolnaaDoorR.Tn
open Go.RowKit Ar Hp
/-- Words shaded, whatever they are. -/
theorem Inv.shL {ls : List (List Int)} {σ : HS} {room : Nat} {X : Int → Prop} (hG : Gd σ) : ∀ (vs : List Int) {S : Int → Prop} {p : TS × Nat}, Inv ls σ S X p.1 →
    Inv ls σ (fun a => S a ∨ ∃ v ∈ vs, fo σ v = some a) X (shA σ room vs p).1 ∧ Tn.cnt (All σ) (shA σ room vs p).1.c 2 = Tn.cnt (All σ) p.1.c 2
  | [], S, p, h => ⟨⟨h.nd, h.gr, h.al, h.ob, h.c3, h.bl, fun a ha => (h.rc a ha).mono fun b hb => .base (.inl hb), fun a ha => by
      rcases ha with ha | ⟨v, hv, _⟩
      · exact h.st a ha
      · cases hv⟩, rfl⟩
  | v :: r, S, p, h => by
    obtain ⟨h1, _, n, _, _, h5⟩ := h.sh1_ (room := room) (S' := fun a => S a ∨ fo σ v = some a) (v := v) hG (fun b hb => .base (.inr hb)) (fun _ h => .inl h) (fun _ h => h)
    obtain ⟨g1, g2⟩ := Inv.shL hG r h1
    have hS : (fun a => (S a ∨ fo σ v = some a) ∨ ∃ u ∈ r, fo σ u = some a) = fun a => S a ∨ ∃ u ∈ v :: r, fo σ u = some a := by
      funext a
      apply propext
      constructor
      · rintro ((h | h) | ⟨u, hu, h⟩)
        · exact .inl h
        · exact .inr ⟨v, by simp, h⟩
        · exact .inr ⟨u, by simp [hu], h⟩
      · rintro (h | ⟨u, hu, h⟩)
        · exact .inl (.inl h)
        · rcases List.mem_cons.1 hu with rfl | hu
          · exact .inl (.inr h)
          · exact .inr ⟨u, hu, h⟩
    rw [hS] at g1
    exact ⟨g1, g2.trans h5⟩
/-- All of the list Black: so many. -/
theorem cnt_all {A L : List Int} {c : Int → Int} {k : Int} (hn : L.Pairwise (· ≠ ·)) (hs : ∀ a ∈ L, a ∈ A ∧ c a = k) : L.length ≤ Tn.cnt A c k :=
  Tm.nodup_len _ _ hn fun a ha => List.mem_filter.2 ⟨(hs a ha).1, by simp [(hs a ha).2]⟩
end Go.Proofs.YtoajbjeiplolnaaDoorR.Tn
namespace Go.Proofs.YtoajbjeiplolnaaDoorR.TintRings
open Go.RowKit Ar Hp Tn
set_option linter.unusedSimpArgs false
set_option linter.unusedVariables false

set_option maxRecDepth 100000 in
theorem early (A : Option Addr) (n c : Nat) (N : Int) (room : Int) (w : World) (hT : Pg.Tab w) (h : n < 1 ∨ 8 < n ∨ N < 1 ∨ 40 < N) :
    Calls Tryd.prog 13 #[.slice A n c, .int .i64 N, .int .i64 room] w fun e w' => e = .returned (.bool true) ∧ Below w.heap.size w w' := by
  have HT := Lib.hid hT
  clear hT
  by_cases h0 : n < 1
  · have h0' : (n : Int) < 1 := by omega
    clear h0
    clear h
    go_enter Tryd.func13, Tryd.ntmps13
    go_wp2_with fail
    refine (Tn.alive _ HT.out).mono ?_
    rintro e w1 ⟨rfl, hb⟩
    dsimp only
    go_wp2_with fail
    go_ret
    exact ⟨rfl, hb⟩
  · have h0' : ¬ (n : Int) < 1 := by omega
    by_cases h1 : 8 < n
    · have h1' : (8 : Int) < (n : Int) := by omega
      clear h1
      clear h
      go_enter Tryd.func13, Tryd.ntmps13
      go_wp2_with fail
      refine (Tn.alive _ HT.out).mono ?_
      rintro e w1 ⟨rfl, hb⟩
      dsimp only
      go_wp2_with fail
      go_ret
      exact ⟨rfl, hb⟩
    · have h1' : ¬ (8 : Int) < (n : Int) := by omega
      by_cases h2 : N < 1
      · clear h
        go_enter Tryd.func13, Tryd.ntmps13
        go_wp2_with fail
        refine (Tn.alive _ HT.out).mono ?_
        rintro e w1 ⟨rfl, hb⟩
        dsimp only
        go_wp2_with fail
        go_ret
        exact ⟨rfl, hb⟩
      · have h3 : 40 < N := by omega
        clear h
        go_enter Tryd.func13, Tryd.ntmps13
        go_wp2_with fail
        refine (Tn.alive _ HT.out).mono ?_
        rintro e w1 ⟨rfl, hb⟩
        dsimp only
        go_wp2_with fail
        go_ret
        exact ⟨rfl, hb⟩

theorem infoL : (Tryd.prog.info? 108).map (fun i => (i.zero, i.size, i.bytes)) = some (some (.agg #[.int .i64 0, .int .i64 0, .int .i64 0]), 3, 24) := by kernel_rfl
theorem trip_snoc (l : List Link) (q : Link) : tripCells (l ++ [q]) = tripCells l ++ [.int .i64 q.1, .int .i64 q.2.1, .int .i64 q.2.2] := by
  unfold tripCells
  rw [List.flatMap_append]
  simp
/-- Links so far: so many, each to an object that may be. -/
def LkR (w wr : World) (q : Nat) (v : Value) : Prop := ∃ (lk : List Link) (a : Option Addr) (cp : Nat), lk.length = q ∧ v = .slice a q cp ∧ wr.ownsRow w.heap.size 108 3 (.slice a q cp) q (tripCells lk) ∧ ∀ x ∈ lk, x.2.2 ≤ 9223372036854775807
set_option maxRecDepth 100000 in
set_option maxHeartbeats 4000000 in
theorem core (A : Option Addr) (n c : Nat) (of : List Int) (N : Nat) (room : Int) (w : World) (hT : Pg.Tab w) (hl : of.length = n) (hR : Reads w w.heap.size 1 A n c (of.map (.int .i64))) (h0 : 1 ≤ n) (h8 : n ≤ 8) (hN0 : 1 ≤ N) (hN : N ≤ 40) :
    Calls Tryd.prog 13 #[.slice A n c, .int .i64 (N : Int), .int .i64 room] w fun e w' => e = .returned (.bool true) ∧ Below w.heap.size w w' := by
  obtain ⟨i0, hi0, hz0, hz1, hz2⟩ := info_parts infoL
  have HIL := Lib.hid (⟨hi0, hz0, hz1, hz2⟩ : Tryd.prog.info? 108 = some i0 ∧ i0.zero = some (.agg #[.int .i64 0, .int .i64 0, .int .i64 0]) ∧ i0.size = 3 ∧ i0.bytes = 24)
  have HT := Lib.hid hT
  have H0 := Lib.hid hT.1
  have HL := Lib.hid hl
  have HR := Lib.hid hR
  have h1' : ¬ (n : Int) < 1 := by omega
  have h2' : ¬ (8 : Int) < (n : Int) := by omega
  have h4' : ¬ (N : Int) < 1 := by omega
  have h5' : ¬ (40 : Int) < (N : Int) := by omega
  clear hT hl hR hi0 hz0 hz1 hz2
  go_enter Tryd.func13, Tryd.ntmps13
  go_wp2_with fail
  refine (Tn.alive _ HT.out).mono ?_
  rintro e w1 ⟨rfl, hb1⟩
  have HB1 := Lib.hid hb1
  clear hb1
  dsimp only
  go_wp2_with fail
  go_loopw [7, 8, 9] (fun lv iv _ wr => ∃ q : Nat, q ≤ N ∧ iv = .int .i64 (q : Int) ∧ LkR w wr (16 * q) lv ∧ Below w.heap.size w wr) (fun _ iv _ _ => N - (intOf iv).toNat)
  case atStart => exact ⟨0, Nat.zero_le _, rfl, ⟨[], none, 0, rfl, rfl, World.ownsRow_nil _ _ _ _, fun x hx => by cases hx⟩, HB1.out⟩
  case round =>
    clear HB1
    obtain ⟨q, hq, rfl, hlk, hb⟩ := hrel
    have HLK := Lib.hid hlk
    have HB := Lib.hid hb
    clear hlk hb
    obtain ⟨wo, rfl⟩ : ∃ wo : World, wo = wr := ⟨_, rfl⟩
    by_cases hqN : q < N
    · have hqN2 : (q : Int) < (N : Int) := by omega
      obtain ⟨v7, hv7⟩ : ∃ v : Value, LkR w wo (16 * q) v := ⟨_, HLK.out⟩
      go_wp2_with fail
      go_loopw [7, 9] (fun lv kv wr => ∃ r : Nat, r ≤ 16 ∧ kv = .int .i64 (r : Int) ∧ LkR w wr (16 * q + r) lv ∧ Below w.heap.size w wr) (fun _ kv _ => 16 - (intOf kv).toNat)
      case atStart => exact ⟨0, by omega, rfl, HLK.out, HB.out⟩
      case round =>
        clear HLK HB hv7
        obtain ⟨r, hr, rfl, ⟨lk, a, cp, hll, rfl, ho, hx⟩, hb⟩ := hrel
        have HO := Lib.hid ho
        have HX := Lib.hid hx
        have HB := Lib.hid hb
        have HLL := Lib.hid hll
        clear ho hx hb hll
        by_cases hr16 : r < 16
        · have hr2 : (r : Int) < 16 := by omega
          have hmod : ((q : Int) + (r : Int)).tmod (N : Int) = (((q + r) % N : Nat) : Int) := by
            rw [show (q : Int) + (r : Int) = ((q + r : Nat) : Int) by omega]
            exact (Int.ofNat_tmod _ _).symm
          have hmod2 : ((q : Int) + (r : Int)) % (N : Int) = (((q + r) % N : Nat) : Int) := by
            rw [show (q : Int) + (r : Int) = ((q + r : Nat) : Int) by omega]
            exact (Int.natCast_emod _ _).symm
          have hlt := Nat.mod_lt (q + r) (show 0 < N by omega)
          obtain ⟨z, hz⟩ : ∃ z, (q + r) % N = z := ⟨_, rfl⟩
          rw [hz] at hmod hmod2 hlt
          have hsz := HB.out.size
          clear hz
          go_wp2_with (first
            | (at_builtin; go_loud (refine wpList_app _ rfl _ _ 93 rfl w.heap.size 108 i0 (.agg #[.int .i64 0, .int .i64 0, .int .i64 0]) 3 24 Tryd.underlying93 HIL.out.1 HIL.out.2.1 HIL.out.2.2.1 HIL.out.2.2.2 rfl (by decide) _ _ _ rfl (HO.out.alloc _) (wr.heap.size + 1) _ 1 1 [.int .i64 (q : Int), .int .i64 (r : Int), .int .i64 (z : Int)] rfl (blk_readsN (n := 1) (size := 3) (Blk.new wr _ _) (by simp) rfl rfl (by decide)) ?c1 ?c2 ?c3 ?c4 ?_))
            | simp only [hmod]
            | simp only [hmod2])
          case c1 => intro u hu; simp at hu; rcases hu with rfl | rfl | rfl <;> rfl
          case c2 => unfold maxLen; omega
          case c3 => omega
          case c4 => (try simp only [World.size_alloc]); omega
          intro a4 c4 w6 ho6 hg6 hat6
          have HB6 := Lib.hid (show Below w.heap.size w w6 from (fresh_alloc HB.out _).grown hg6 (by simp; omega) (fun k hk => (HO.out.lt k hk).1))
          have HLK6 := Lib.hid (show LkR w w6 (16 * q + r + 1) (.slice a4 (16 * q + r + 1) c4) from ⟨lk ++ [((q : Int), (r : Int), (z : Int))], a4, c4, by rw [List.length_append, HLL.out]; rfl, rfl, by rw [trip_snoc]; exact ho6, fun x hx => by
            rcases List.mem_append.1 hx with hx | hx
            · exact HX.out x hx
            · rw [List.mem_singleton.1 hx]
              show (z : Int) ≤ _
              omega⟩)
          clear ho6 hg6 hat6 HO HB hmod hmod2
          go_wp2_with fail
          go_roundw
          case rel => exact ⟨r + 1, by omega, by go_num, HLK6.out, HB6.out⟩
          case measure => simp [intOf]; omega
        · obtain rfl : r = 16 := by omega
          have hr2 : ¬ ((16 : Nat) : Int) < 16 := by omega
          have HLK6 := Lib.hid (show LkR w wr (16 * (q + 1)) (.slice a (16 * q + 16) cp) from ⟨lk, a, cp, HLL.out, rfl, HO.out, HX.out⟩)
          go_wp2_with fail
          go_roundw
          case rel => exact ⟨q + 1, by omega, by go_num, HLK6.out, HB.out⟩
          case measure => simp [intOf]; omega
    · obtain rfl : q = N := by omega
      have hqN2 : ¬ (q : Int) < (q : Int) := by omega
      obtain ⟨lk, a, cp, hll, hlv, ho, hx⟩ := HLK.out
      have HLL := Lib.hid hll
      have HX := Lib.hid hx
      have HO := Lib.hid ho
      obtain ⟨M, hM⟩ : ∃ M, 16 * q = M := ⟨_, rfl⟩
      have hM2 : M ≤ 640 := by omega
      rw [hM] at HLL HO hlv
      subst hlv
      clear hll hx ho hM HLK
      go_wp2_with fail
      refine (Bd.build_any A n c of q a M cp lk _ (HT.out.call HB.out) HL.out ((HR.out.below HB.out).more HB.out.size) HLL.out HX.out (Reads.of_own HO.out) h0 h8 (by omega) (by omega) rfl).mono ?_
      rintro e w2 ⟨w0, B, sa, sc, L, A1, c1, σs, rfl, hb0, hf, hr, _, hLi, hrs⟩
      obtain ⟨σ, hσ⟩ : ∃ σ, lks (shps of) L lk σs = σ := ⟨_, rfl⟩
      rw [hσ] at hf hr
      have HB0 := Lib.hid (fresh_call HB.out hb0)
      have HF := Lib.hid hf
      have HLR := Lib.hid hr
      have HRS := Lib.hid hrs
      have HOB := Lib.hid (Ob.of hf)
      clear hb0 hf hr hrs hσ HB HO HX HLL
      dsimp only
      go_wp2_with fail
      refine (Pil.new_any room _).mono ?_
      rintro e w3 ⟨rfl, hp3, hb3⟩
      have HRD := Lib.hid (Rd.start HB0.out HF.out HLR.out HRS.out hp3 hb3)
      clear hp3 hb3 HF HLR HRS HB0
      obtain ⟨zp, hzp⟩ : ∃ zp, w2.heap.size = zp := ⟨_, rfl⟩
      obtain ⟨zs, hzs⟩ : ∃ zs, w0.heap.size = zs := ⟨_, rfl⟩
      rw [hzp, hzs] at HRD
      rw [hzp]
      obtain ⟨hrm1, hrm2⟩ := rm_bd room
      obtain ⟨R, hR⟩ : ∃ R, rm room = R := ⟨_, rfl⟩
      rw [hR] at HRD hrm1 hrm2
      obtain ⟨ls, hls⟩ : ∃ ls, shps of = ls := ⟨_, rfl⟩
      rw [hls] at HRD HOB ⊢
      have HLS := Lib.hid hls
      clear hzp hzs hR hls
      have HI := Lib.hid (Inv.start (ls := ls) HOB.out.wh)
      by_cases hL0 : L.length = 0
      · have hL1 : ((L.length : Int) == 0) = true := by simp [hL0]
        have HE := Lib.hid HRD.out.tr.hw.bel
        rw [hL0] at hL1 ⊢
        clear hL0
        dsimp only
        go_wp2_with fail
        go_ret
        exact ⟨rfl, HE.out⟩
      · have hL1 : ((L.length : Int) == 0) = false := by rw [beq_eq_false_iff_ne]; omega
        dsimp only
        go_wp2_with fail
        refine (shade_any w _ _ σ _ σ _ H0.out HRD.out.tr A1 L.length c1 L rfl (by omega) (fun x hx => by have := HOB.out.bd x hx; omega) (fun j x hx => by
          obtain ⟨g, rfl, hgl, hc⟩ := HRD.out.at_ hx
          exact ⟨g, 0, rfl, hgl, HRD.out.rf g rfl, by simpa using hc⟩)).mono ?_
        obtain ⟨hi4, hc4⟩ := Inv.shL (room := R) HOB.out.gd L (p := (⟨col σ, [], false⟩, 0)) HI.out
        have hc0 : Tn.cnt (All σ) (col σ) 2 = 0 := by
          unfold Tn.cnt
          rw [List.length_eq_zero_iff, List.filter_eq_nil_iff]
          intro a _
          rw [HOB.out.wh a]
          decide
        have hc4 : Tn.cnt (All σ) (shA σ R L (⟨col σ, [], false⟩, 0)).1.c 2 = 0 := hc4.trans hc0
        have HI4 := Lib.hid hi4
        obtain ⟨T, hT⟩ : ∃ T, (shA σ R L (⟨col σ, [], false⟩, 0)).1 = T := ⟨_, rfl⟩
        rw [hT] at HI4 hc4
        rw [show (shA σ R L (({ c := col σ, l := [], lost := false } : TS), 0)).1 = T from hT]
        have hmu : mu σ T ≤ 2 * L.length + 1 := by
          unfold mu
          rw [HOB.out.num]
          split <;> omega
        have HC4 := Lib.hid hc4
        clear hi4 hT hc0 hc4 HI
        rintro e w4 ⟨σ4, v4, rfl, htr4, hk4, hg4⟩
        have HRD4 := Lib.hid (HRD.out.next htr4 hk4 hg4)
        clear htr4 hk4 hg4 HRD
        dsimp only
        go_wp2_with fail
        refine (drain_any w _ _ σ _ T σ4 v4 100000 H0.out HRD4.out.tr HI4.out HOB.out.gd hrm1 HOB.out.wds (by omega) (by omega)).mono ?_
        rintro e w5 ⟨s, T', σ5, v5, rfl, hf5, hi5, htr5, hk5, hg5, hs1, hs2, _, _⟩
        have HRD5 := Lib.hid (HRD4.out.next htr5 hk5 hg5)
        have HBK := Lib.hid (show ∀ a ∈ L, T'.c a = 2 from fun a ha => by
          have h1 := hi5.end_ hf5 a
          exact h1.2.2 (.base (.inr ⟨a, ha, HOB.out.fo_ ha⟩)))
        have hge := cnt_all HOB.out.nd fun a ha => ⟨HOB.out.all a ha, HBK.out a ha⟩
        rw [HC4.out] at hs2
        have hsL : L.length ≤ s := by omega
        have hsU : s ≤ 2 * L.length + 1 := by omega
        have hs1' : (L.length : Int) ≤ (s : Int) := by omega
        have hs2' : (s : Int) ≤ 2 * (L.length : Int) + 2 := by omega
        have HF5 := Lib.hid hf5
        clear hf5 hi5 htr5 hk5 hg5 hs1 hs2 hge HRD4 HI4 HC4
        dsimp only
        go_wp2_with fail
        go_loopw [15] (fun iv wr => ∃ r : Nat, r ≤ L.length ∧ iv = .int .i64 (r : Int) ∧ Rd w wr ⟨B, ls, zp, zp, R, zs, sa, sc⟩ σ T' σ5 v5 L A1 c1) (fun iv _ => L.length - (intOf iv).toNat)
        case atStart => exact ⟨0, Nat.zero_le _, rfl, HRD5.out⟩
        case round =>
          clear HRD5
          obtain ⟨r, hr, rfl, hrd⟩ := hrel
          have HRD := Lib.hid hrd
          clear hrd
          by_cases hrl : r < L.length
          · have hrl2 : (r : Int) < (L.length : Int) := by omega
            obtain ⟨x, ha⟩ : ∃ x, L[r]? = some x := ⟨_, List.getElem?_eq_getElem hrl⟩
            obtain ⟨g, hg, hgl, hcell⟩ := HRD.out.at_ ha
            have ham := List.mem_of_getElem? ha
            have hab := HOB.out.bd x ham
            have hcx : col σ5 x = 2 := (HRD.out.tr.col x).trans (HBK.out x ham)
            have HCX := Lib.hid hcx
            subst hg
            clear ha ham hcx
            go_wp2_with fail
            refine (color_any B ls σ5 x _ HRD.out.tr.hw.hp (by omega)).mono ?_
            rw [HCX.out]
            rintro e w7 ⟨rfl, hb7⟩
            have HRD7 := Lib.hid (HRD.out.call hb7)
            clear hb7 HRD hcell
            dsimp only
            go_wp2_with fail
            go_roundw
            case rel => exact ⟨r + 1, by omega, by go_num, HRD7.out⟩
            case measure => simp [intOf]; omega
          · obtain rfl : r = L.length := by omega
            have hrl2 : ¬ (L.length : Int) < (L.length : Int) := by omega
            go_wp2_with fail
            refine (done_any w _ _ σ T' σ5 v5 HRD.out.tr).mono ?_
            rw [HF5.out.1, HF5.out.2]
            rintro e w7 ⟨rfl, rfl⟩
            dsimp only
            go_wp2_with fail
            refine (shapes_any A n c of _ HL.out h8 ((HR.out.below HRD.out.tr.hw.bel).more HRD.out.tr.hw.bel.size)).mono ?_
            rw [HLS.out]
            rintro e w8 ⟨sv, rfl, hsh, hb8⟩
            obtain ⟨sa2, sc2, vs2, rfl, _, _⟩ := hsh
            have HE := Lib.hid (fresh_call HRD.out.tr.hw.bel hb8)
            have hle : ((ls.length : Int) == (ls.length : Int)) = true := by simp
            clear hb8
            dsimp only
            go_wp2_with fail
            go_ret
            exact ⟨rfl, HE.out⟩
theorem walk (A : Option Addr) (n c : Nat) (of : List Int) (N : Int) (room : Int) (w : World) (hT : Pg.Tab w) (hl : of.length = n) (_wl : ∀ x ∈ of, (Lit.int .i64 x).wf = true) (hR : Reads w w.heap.size 1 A n c (of.map (.int .i64)))
    (_w1 : (Lit.int .i64 N).wf = true) (_w4 : (Lit.int .i64 room).wf = true) :
    Calls Tryd.prog 13 #[.slice A n c, .int .i64 N, .int .i64 room] w fun e w' => e = .returned (.bool true) ∧ Below w.heap.size w w' := by
  by_cases h : n < 1 ∨ 8 < n ∨ N < 1 ∨ 40 < N
  · exact early A n c N room w hT h
  · obtain ⟨M, rfl⟩ : ∃ M : Nat, N = (M : Int) := ⟨N.toNat, by omega⟩
    exact core A n c of M room w hT hl hR (by omega) (by omega) (by omega) (by omega)
end Go.Proofs.YtoajbjeiplolnaaDoorR.TintRings
