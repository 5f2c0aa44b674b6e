/- The walk of besomlaw20.TintMarks: it returns true, and writes nothing that was there. -/
import Derived.Test.YtoajbjeiplolnaaDoorRMk
import Derived.Outline
namespace Go.Proofs.YtoajbjeiplolnaaDoorR.TintMarks
open Go.RowKit Ar Hp Tn Td
set_option linter.unusedSimpArgs false
set_option linter.unusedVariables false

set_option maxRecDepth 100000 in
theorem early (A : Option Addr) (n c : Nat) (N : Int) (A2 : Option Addr) (m c2 : Nat) (A3 : Option Addr) (k c3 : Nat) (room : Int) (w : World) (hT : Pg.Tab w) (hm : m ≤ 9223372036854775807) (hk : k ≤ 9223372036854775807) (h : n < 1 ∨ 8 < n ∨ N < 0 ∨ 80 < N ∨ 200 < m ∨ 20 < k) :
    Calls Tryd.prog 12 #[.slice A n c, .int .i64 N, .slice A2 m c2, .slice A3 k c3, .int .i64 room] w fun e w' => e = .returned (.bool true) ∧ Below w.heap.size w w' := by
  have HT := Lib.hid hT
  clear hT
  by_cases h0 : n < 1
  · have h0' : (n : Int) < 1 := by omega
    clear h0
    clear h
    go_enter Tryd.func12, Tryd.ntmps12
    go_wp2_with fail
    refine (Tn.alive _ HT.out).mono ?_
    rintro e w1 ⟨rfl, hb⟩
    dsimp only
    go_wp2_with fail
    go_ret
    exact ⟨rfl, hb⟩
  · have h0' : ¬ (n : Int) < 1 := by omega
    by_cases h1 : 8 < n
    · have h1' : (8 : Int) < (n : Int) := by omega
      clear h1
      clear h
      go_enter Tryd.func12, Tryd.ntmps12
      go_wp2_with fail
      refine (Tn.alive _ HT.out).mono ?_
      rintro e w1 ⟨rfl, hb⟩
      dsimp only
      go_wp2_with fail
      go_ret
      exact ⟨rfl, hb⟩
    · have h1' : ¬ (8 : Int) < (n : Int) := by omega
      by_cases h2 : N < 0
      · clear h
        go_enter Tryd.func12, Tryd.ntmps12
        go_wp2_with fail
        refine (Tn.alive _ HT.out).mono ?_
        rintro e w1 ⟨rfl, hb⟩
        dsimp only
        go_wp2_with fail
        go_ret
        exact ⟨rfl, hb⟩
      · by_cases h3 : 80 < N
        · clear h
          go_enter Tryd.func12, Tryd.ntmps12
          go_wp2_with fail
          refine (Tn.alive _ HT.out).mono ?_
          rintro e w1 ⟨rfl, hb⟩
          dsimp only
          go_wp2_with fail
          go_ret
          exact ⟨rfl, hb⟩
        · by_cases h4 : 200 < m
          · have h4' : (200 : Int) < (m : Int) := by omega
            clear h4
            clear h
            go_enter Tryd.func12, Tryd.ntmps12
            go_wp2_with fail
            refine (Tn.alive _ HT.out).mono ?_
            rintro e w1 ⟨rfl, hb⟩
            dsimp only
            go_wp2_with fail
            go_ret
            exact ⟨rfl, hb⟩
          · have h4' : ¬ (200 : Int) < (m : Int) := by omega
            have h5 : 20 < k := by omega
            have h5' : (20 : Int) < (k : Int) := by omega
            clear h5
            clear h
            go_enter Tryd.func12, Tryd.ntmps12
            go_wp2_with fail
            refine (Tn.alive _ HT.out).mono ?_
            rintro e w1 ⟨rfl, hb⟩
            dsimp only
            go_wp2_with fail
            go_ret
            exact ⟨rfl, hb⟩
set_option maxRecDepth 100000 in
set_option maxHeartbeats 8000000 in
theorem core (A : Option Addr) (n c : Nat) (of : List Int) (N : Nat) (A2 : Option Addr) (m c2 : Nat) (lk : List Link) (A3 : Option Addr) (k c3 : Nat) (fr : List Int) (room : Int) (w : World) (hT : Pg.Tab w) (hl : of.length = n) (hR : Reads w w.heap.size 1 A n c (of.map (.int .i64))) (hl2 : lk.length = m) (hw2 : ∀ q ∈ lk, q.2.2 ≤ 9223372036854775807) (hR2 : Reads w w.heap.size 3 A2 m c2 (tripCells lk)) (hl3 : fr.length = k) (hR3 : Reads w w.heap.size 1 A3 k c3 (fr.map (.int .i64))) (h0 : 1 ≤ n) (h8 : n ≤ 8) (hN : N ≤ 80) (hm : m ≤ 200) (hk : k ≤ 20) :
    Calls Tryd.prog 12 #[.slice A n c, .int .i64 (N : Int), .slice A2 m c2, .slice A3 k c3, .int .i64 room] w fun e w' => e = .returned (.bool true) ∧ Below w.heap.size w w' := by
  have HT := Lib.hid hT
  have H0 := Lib.hid hT.1
  have HL := Lib.hid hl
  have HR := Lib.hid hR
  have HL2 := Lib.hid hl2
  have HW2 := Lib.hid hw2
  have HR2 := Lib.hid hR2
  have HL3 := Lib.hid hl3
  have HR3 := Lib.hid hR3
  have h1' : ¬ (n : Int) < 1 := by omega
  have h2' : ¬ (8 : Int) < (n : Int) := by omega
  have h4' : ¬ (N : Int) < 0 := by omega
  have h5' : ¬ (80 : Int) < (N : Int) := by omega
  have h6' : ¬ (200 : Int) < (m : Int) := by omega
  have h7' : ¬ (20 : Int) < (k : Int) := by omega
  have hmm := @run_makeMap Tryd.prog
  clear hT hl hR hl2 hw2 hR2 hl3 hR3
  obtain ⟨i0, hi0, hz0, hz1, hz2⟩ := info_parts Pg.infoI
  have HI0 := Lib.hid (⟨hi0, hz0, hz1, hz2⟩ : Tryd.prog.info? 3 = some i0 ∧ i0.zero = some (.int .i64 0) ∧ i0.size = 1 ∧ i0.bytes = 8)
  clear hi0 hz0 hz1 hz2
  go_enter Tryd.func12, Tryd.ntmps12
  go_wp2_with fail
  refine (Tn.alive _ HT.out).mono ?_
  rintro e w1 ⟨rfl, hb1⟩
  have HB1 := Lib.hid hb1
  clear hb1
  dsimp only
  go_wp2_with fail
  refine (Bd.build_any A n c of N A2 m c2 lk _ (HT.out.call HB1.out) HL.out ((HR.out.below HB1.out).more HB1.out.size) HL2.out HW2.out ((HR2.out.below HB1.out).more HB1.out.size) h0 h8 (by omega) (by omega) rfl).mono ?_
  rintro e w2 ⟨w0, B, sa, sc, L, A1, c1, σs, rfl, hb0, hf, hr, _, hLi, hrs⟩
  obtain ⟨σ, hσ⟩ : ∃ σ, lks (shps of) L lk σs = σ := ⟨_, rfl⟩
  rw [hσ] at hf hr
  have HB0 := Lib.hid (fresh_call HB1.out hb0)
  have HF := Lib.hid hf
  have HLR := Lib.hid hr
  have HRS := Lib.hid hrs
  have HOB := Lib.hid (Ob.of hf)
  clear hb0 hf hr hrs hσ HB1 HR HR2 HW2 HL2
  dsimp only
  go_wp2_with fail
  refine (Pil.new_any room _).mono ?_
  rintro e w3 ⟨rfl, hp3, hb3⟩
  have HRD := Lib.hid (Rd.start HB0.out HF.out HLR.out HRS.out hp3 hb3)
  clear hp3 hb3 HF HLR HRS HB0
  obtain ⟨zp, hzp⟩ : ∃ zp, w2.heap.size = zp := ⟨_, rfl⟩
  obtain ⟨zs, hzs⟩ : ∃ zs, w0.heap.size = zs := ⟨_, rfl⟩
  rw [hzp, hzs] at HRD
  rw [hzp]
  obtain ⟨hrm1, hrm2⟩ := rm_bd room
  obtain ⟨R, hR⟩ : ∃ R, rm room = R := ⟨_, rfl⟩
  rw [hR] at HRD hrm1 hrm2
  obtain ⟨ls, hls⟩ : ∃ ls, shps of = ls := ⟨_, rfl⟩
  rw [hls] at HRD HOB ⊢
  clear hzp hzs hR hls
  have HI := Lib.hid (Inv.start (ls := ls) HOB.out.wh)
  have hL80 : L.length ≤ 80 := by omega
  have hA := fresh_alloc (Below.refl w3.heap.size w3) (.map #[] 0)
  have HBG := Lib.hid (show Bg w (w3.alloc (.map #[] 0)) ⟨B, ls, zp, zp, R, zs, sa, sc⟩ σ ⟨col σ, [], false⟩ σ (.slice none 0 0) L A1 c1 [] [] none 0 w3.heap.size [] [] from
    ⟨HRD.out.call hA, by
      have e : (fun b : Int => b ∈ ([] : List Int)) = fun _ => False := by funext b; simp
      rw [e]
      exact HI.out, World.ownsRow_nil _ _ _ _, (fun i hi => by cases hi), by simpa using BMap.made w3, ⟨fun e => Nat.lt_irrefl _ (HRD.out.tr.foot_lt e), Nat.le_of_lt HRD.out.tr.hw.hp.z_lt, fun e => Nat.lt_irrefl _ (HRD.out.row.lt _ e).2⟩, (fun x => Iff.rfl), (fun x hx => by cases hx), (fun b => by
      show col σ b ≠ 0 ↔ b ∈ ([] : List Int)
      rw [HOB.out.wh b]
      simp), fun b => by
      show col σ b ≠ 2
      rw [HOB.out.wh b]
      decide⟩)
  clear hA HRD HI
  dsimp only
  go_wp2_with fail
  obtain ⟨bm, hbm⟩ : ∃ bm, w3.heap.size = bm := ⟨_, rfl⟩
  rw [hbm] at HBG ⊢
  generalize w3.alloc (.map #[] 0) = w3 at *
  clear hbm
  go_loopw [15, 17, 18, 19, 20, 21] (fun bv iv _ _ _ _ wr => ∃ (q nb : Nat) (T : TS) (σ1 : HS) (v : Value) (F : List Int) (Ab : Option Addr) (cb : Nat) (Tk : List Int), q ≤ k ∧ iv = .int .i64 (q : Int) ∧ bv = .slice Ab nb cb ∧ F.length = nb ∧ nb ≤ q ∧ Tk.length ≤ q ∧ Bg w wr ⟨B, ls, zp, zp, R, zs, sa, sc⟩ σ T σ1 v L A1 c1 F F Ab cb bm Tk F) (fun _ iv _ _ _ _ _ => k - (intOf iv).toNat)
  case atStart => exact ⟨0, 0, _, _, _, [], none, 0, [], Nat.zero_le _, rfl, rfl, rfl, Nat.le_refl _, Nat.le_refl _, HBG.out⟩
  case round =>
    clear HBG
    obtain ⟨q, nb, T, σ1, v, F, Ab, cb, Tk, hq, rfl, rfl, hnb, hnq, hTk, hbg⟩ := hrel
    have HBG := Lib.hid hbg
    have HNB := Lib.hid hnb
    clear hbg hnb
    obtain ⟨w4, rfl⟩ : ∃ w4 : World, w4 = wr := ⟨_, rfl⟩
    go_upto_region 10 with (fail)
    go_cut [82] from 74 to 82 (fun p wx => p = .bool (decide (q < k) && decide (0 < L.length)) ∧ wx = w4)
    case first =>
      by_cases h1 : q < k
      · have h1' : (q : Int) < (k : Int) := by omega
        by_cases h2 : 0 < L.length
        · have h2' : (0 : Int) < (L.length : Int) := by omega
          go_wp2_with fail
          go_meet
          exact ⟨by simp [h1, h2], rfl⟩
        · have h2' : ¬ (0 : Int) < (L.length : Int) := by omega
          go_wp2_with fail
          go_meet
          exact ⟨by simp [h2], rfl⟩
      · have h1' : ¬ (q : Int) < (k : Int) := by omega
        go_wp2_with fail
        go_wp2_with fail
        go_meet
        exact ⟨by simp [h1], rfl⟩
    case rest =>
    obtain ⟨hp, rfl⟩ := hcut
    subst hp
    obtain ⟨w4, rfl⟩ : ∃ w4 : World, w4 = wc := ⟨_, rfl⟩
    by_cases hqk : q < k ∧ 0 < L.length
    · obtain ⟨hqk, hLp⟩ := hqk
      have hbb : (decide (q < k) && decide (0 < L.length)) = true := by simp [hqk, hLp]
      rw [hbb]
      clear hbb
      have hqk2 : (q : Int) < (k : Int) := by omega
      obtain ⟨x, hx⟩ : ∃ x, fr[q]? = some x := ⟨_, List.getElem?_eq_getElem (by have := HL3.out; omega)⟩
      obtain ⟨rb, ro, rfl, hrb, hrc⟩ := (HR3.out.below HBG.out.rd.tr.hw.bel).at_ (j := q) (u := .int .i64 x) (by simp [hx])
      obtain ⟨j, hj, hjx⟩ := Bit.idx x L.length (by omega) (by omega)
      obtain ⟨a, ha⟩ : ∃ a, L[j]? = some a := ⟨_, List.getElem?_eq_getElem hj⟩
      obtain ⟨g, hg, hgl, hcell⟩ := HBG.out.rd.at_ ha
      have ham := List.mem_of_getElem? ha
      have HAM := Lib.hid ham
      have hab := HOB.out.bd a ham
      have hszw := HBG.out.rd.tr.hw.bel.size
      have hrb2 : rb < w4.heap.size := by omega
      have HROW := Lib.hid (show w4.ownsRow w.heap.size 3 1 (.slice Ab nb cb) nb (ints' F) from by rw [← HNB.out]; exact HBG.out.row)
      subst hg
      clear hx ha ham
      go_wp2_with (first
        | (at_builtin; go_loud (refine wpList_app _ rfl _ _ 27 rfl w.heap.size 3 i0 (.int .i64 0) 1 8 Tryd.underlying27 HI0.out.1 HI0.out.2.1 HI0.out.2.2.1 HI0.out.2.2.2 rfl (by decide) _ _ _ rfl (HROW.out.alloc _) (w4.heap.size + 1) _ 1 1 [.int .i64 a] rfl (Blk.reads (Blk.new w4 _ _) (by simp) rfl rfl (by decide)) ?c1 ?c2 ?c3 ?c4 ?_))
        | simp only [hjx])
      case c1 => intro u hu; simp at hu; subst hu; rfl
      case c2 => unfold maxLen; omega
      case c3 => omega
      case c4 => (try simp only [World.size_alloc]); omega
      intro Ab5 cb5 w5 ho5 hg5 hat5
      rw [← HNB.out] at ho5 hg5 hat5
      have hat6 : (Value.slice Ab5 (F.length + 1) cb5).ownBlock = (Value.slice Ab F.length cb).ownBlock ∨ (Value.slice Ab5 (F.length + 1) cb5).ownBlock = some (w4.heap.size + 1) := by
        rw [World.size_alloc] at hat5
        exact hat5
      have HBG5 := Lib.hid (HBG.out.app H0.out ho5 hg5 hat6)
      have hlk := HBG5.out.mp.look a (wf_addr hab)
      have HDK := Lib.hid (show decide (a ∈ Tk) = decide (a ∈ F) from decide_eq_decide.2 (HBG5.out.tk a))
      rw [HDK.out] at hlk
      obtain ⟨bk, hbk⟩ : ∃ bk, decide (a ∈ F) = bk := ⟨_, rfl⟩
      rw [hbk] at hlk
      have HBK := Lib.hid hbk
      clear ho5 hg5 hat5 hat6 HBG hcell hrc HROW hjx hbk
      go_upto_if 107 with (fail)
      go_cut [19] from 108 to 108 (fun v wx => ∃ wt : Nat, v = .int .i64 (wt : Int) ∧ (if a ∈ F then 0 else 1) = wt ∧ wx = w5)
      case first =>
        rcases bk with _ | _
        · have hna := of_decide_eq_false HBK.out
          have HE := Lib.hid (show (if a ∈ F then 0 else 1) = 1 from if_neg hna)
          clear hna hlk
          go_wp2_with fail
          go_meet
          exact ⟨1, rfl, HE.out, rfl⟩
        · have hna := of_decide_eq_true HBK.out
          have HE := Lib.hid (show (if a ∈ F then 0 else 1) = 0 from if_pos hna)
          clear hna hlk
          go_wp2_with fail
          go_meet
          exact ⟨0, rfl, HE.out, rfl⟩
      case rest =>
      obtain ⟨wt, rfl, hwt, rfl⟩ := hcut
      have HWT := Lib.hid hwt
      clear hwt hlk
      obtain ⟨w5, rfl⟩ : ∃ w5 : World, w5 = wc := ⟨_, rfl⟩
      go_wp2_with fail
      refine (object_any B ls σ1 a _ HBG5.out.rd.tr.hw.hp (by omega)).mono ?_
      obtain ⟨k0, s0, t0, l0, hq0, ht0, hn0, hl1, hfo⟩ := HOB.out.at_ a HAM.out
      rintro e w6 (⟨h1, _⟩ | ⟨k', s', t, A4, c4, h1, h2, rfl, _, hb6⟩)
      · rw [HBG5.out.rd.tr.evo.hat_, hq0] at h1
        cases h1
      have hq1 := (HBG5.out.rd.tr.evo.hat_ a).symm.trans h1
      rw [hq0] at hq1
      have hq1 := Option.some.inj hq1
      injection hq1 with e1 e2
      subst e1 e2
      have hnf : nfl ls σ1 k0 s0 = l0 := by
        obtain ⟨t1, g1, g2, _⟩ := HBG5.out.rd.tr.evo.shape h2
        rw [ht0] at g1
        obtain rfl := Option.some.inj g1
        rw [← hn0]
        unfold nfl
        rw [h2, ht0, Option.getD_some, Option.getD_some, g2]
      have hl16 : l0 ≤ 16 := by
        obtain ⟨_, p, hp, _⟩ := hat_addr HBG5.out.rd.tr.hw.hp h1
        obtain ⟨j', l', _, hl', hn', _⟩ := nfl_is HBG5.out.rd.tr.hw.hp h2 hp
        have h9 : l'.length ≤ 16 := (HBG5.out.rd.tr.hw.hp.len l' (List.mem_of_getElem? hl')).2
        have h10 : nfl ls σ1 k0 s0 = l'.length := hn'
        omega
      rw [hnf]
      have HFO := Lib.hid (hfo (q % l0) (Nat.mod_lt _ (by omega)))
      have hf16 : q % l0 < l0 := Nat.mod_lt _ (by omega)
      have hmod : (q : Int).tmod (l0 : Int) = ((q % l0 : Nat) : Int) := (Int.ofNat_tmod _ _).symm
      have hmod2 : (q : Int) % (l0 : Int) = ((q % l0 : Nat) : Int) := (Int.natCast_emod _ _).symm
      obtain ⟨f, hf⟩ : ∃ f, q % l0 = f := ⟨_, rfl⟩
      rw [hf] at HFO hf16 hmod hmod2
      generalize t.2.1 = se
      generalize (t.2.2 != 0) = mk
      generalize t.1 = sh
      have hl1' : ¬ (l0 : Int) < 1 := by omega
      have hnew := Blk.new w6 #[.int .i64 a, .int .i64 sh, .int .i64 se, .slice A4 l0 c4, .bool mk] 68
      have hA6 := fresh_alloc hb6 (.cells #[.int .i64 a, .int .i64 sh, .int .i64 se, .slice A4 l0 c4, .bool mk] 68)
      have HBG6 := Lib.hid (HBG5.out.call hA6)
      have HNW := Lib.hid hnew
      clear hb6 hnew h1 h2 hA6 HBG5 hq0 ht0 hn0 hfo hnf hf
      obtain ⟨w7, hw7⟩ : ∃ w7, w6.alloc (.cells #[.int .i64 a, .int .i64 sh, .int .i64 se, .slice A4 l0 c4, .bool mk] 68) = w7 := ⟨_, rfl⟩
      obtain ⟨bo, hbo⟩ : ∃ bo, w6.heap.size = bo := ⟨_, rfl⟩
      rw [hw7] at HBG6 HNW
      rw [hbo] at HNW
      have q3 : w7.cell? ⟨bo, 3, none⟩ = some (.slice A4 l0 c4) := HNW.out.cell 3
      have lbo := HNW.out.lt
      dsimp only
      go_wp2_with (first | simp only [hmod] | simp only [hmod2])
      have hA := fresh_alloc (Below.refl w7.heap.size w7) (.cells #[.int .i64 (a + (f : Int))] 3)
      obtain ⟨s1, s2, s3, s4⟩ := shade_beg (R := R) HOB.out.gd HBG6.out.inv HFO.out HBG6.out.cl HBG6.out.c2
      have s4 := s4.trans HWT.out
      refine (shade_any w _ _ σ T σ1 v H0.out (HBG6.out.call hA).rd.tr _ 1 1 [a + (f : Int)] rfl (by omega) (fun x hx => by rw [List.mem_singleton.1 hx]; omega) (one_src w7 _ fun i hi => HBG6.out.rd.tr.foot_lt hi)).mono ?_
      obtain ⟨T8, hT8⟩ : ∃ T8, (shA σ R [a + (f : Int)] (T, 0)).1 = T8 := ⟨_, rfl⟩
      rw [hT8] at s1 s2 s3
      rw [show (shA σ R [a + (f : Int)] (T, 0)).1 = T8 from hT8, show (shA σ R [a + (f : Int)] (T, 0)).2 = wt from s4]
      rintro e w8 ⟨σ8, v8, rfl, htr8, hk8, hg8⟩
      have HBG8 := Lib.hid ((HBG6.out.call hA).shade htr8 hk8 hg8 s1 s2 s3 (fun y hy => by
        rcases List.mem_append.1 hy with hy | hy
        · exact HBG6.out.fl y hy
        · rw [List.mem_singleton.1 hy]
          exact HAM.out))
      clear htr8 hk8 hg8 s1 s2 s3 s4 hA HBG6 HNW q3 lbo hw7 hT8 hmod hmod2 HFO HWT
      have hTl := addT_len Tk a
      dsimp only
      go_wp2_with (first
        | (at_mapUpdate; go_loud (refine wpList_updB rfl _ _ _ rfl a true rfl rfl rfl HBG8.out.mp (by unfold maxLen; omega) (wf_addr hab) ?_; intro w9 hb9 hg9))
        | fail)
      have HBG9 := Lib.hid (HBG8.out.upd H0.out hb9 hg9)
      clear hb9 hg9 HBG8
      go_wp2_with fail
      go_roundw
      case rel => exact ⟨q + 1, nb + 1, T8, σ8, v8, F ++ [a], Ab5, cb5, addT Tk a, by omega, by go_num, rfl, by rw [List.length_append, HNB.out]; rfl, by omega, by omega, HBG9.out⟩
      case measure => simp [intOf]; omega
    · have hbb : (decide (q < k) && decide (0 < L.length)) = false := by
        rw [Bool.and_eq_false_iff, decide_eq_false_iff_not, decide_eq_false_iff_not]
        omega
      rw [hbb]
      clear hbb hqk HR3 HL3
      have HROW := Lib.hid (show w4.ownsRow w.heap.size 3 1 (.slice Ab nb cb) nb (ints' F) from by rw [← HNB.out]; exact HBG.out.row)
      have hzs4 : zs ≤ w4.heap.size := by
        have h1 : zs ≤ B.z := HBG.out.rd.tr.zs
        have h2 : B.z < w4.heap.size := HBG.out.rd.tr.hw.hp.z_lt
        omega
      go_wp2_with fail
      refine (reach_any B ls σ1 zs sa sc Ab nb cb L F w4 HBG.out.rd.tr.hw.hp HBG.out.rd.tr.sh hzs4 (LQ.of HOB.out HBG.out.rd.tr.evo HBG.out.fl) (by omega) HNB.out (by omega) (Reads.of_own HROW.out)).mono ?_
      rintro e w5 ⟨mb, Tr, rfl, hmb, hmp, hbe, hnd, hTr, hTL⟩
      have HBG5 := Lib.hid (HBG.out.call hbe)
      have HMP := Lib.hid hmp
      have HNM := Lib.hid (show ¬ Tn.TB.foot ⟨B, ls, zp, zp, R, zs, sa, sc⟩ σ v mb from fun e => by
        have := HBG.out.rd.tr.foot_lt e
        omega)
      have HTR := Lib.hid (fun a => (hTr a).trans (Rl.rch HOB.out HBG.out.rd.tr.evo a))
      have HTL := Lib.hid hTL
      have HND := Lib.hid hnd
      have HC0 := Lib.hid (show Tn.cnt (All σ) T.c 2 = 0 from cnt_zero HBG.out.c2)
      have hmu : mu σ T ≤ 2 * L.length + 1 := by
        unfold mu
        rw [HOB.out.num]
        split <;> omega
      clear hmp hbe hnd hTr hTL HBG HROW
      dsimp only
      go_wp2_with fail
      refine (drain_any w _ _ σ _ T σ1 v 20000 H0.out HBG5.out.rd.tr HBG5.out.inv HOB.out.gd hrm1 HOB.out.wds (by omega) (by omega)).mono ?_
      rintro e w6 ⟨s, T', σ6, v6, rfl, hf6, hi6, htr6, hk6, hg6, hs1, hs2, _, _⟩
      have HRD6 := Lib.hid (HBG5.out.rd.next htr6 hk6 hg6)
      have HMP6 := Lib.hid (HMP.out.block (hk6.block mb HMP.out.lt HNM.out))
      have HTC := Lib.hid (fun a => (HTR.out a).trans (hi6.end_ hf6 a).2.symm)
      have HT1 := Lib.hid (fun a => (hi6.end_ hf6 a).1)
      have HT3 := Lib.hid hi6.c3
      have hle := cnt_all (A := All σ) (c := T'.c) (k := 2) HND.out fun a ha => ⟨HOB.out.all a (HTL.out a ha), (HTC.out a).1 ha⟩
      rw [HC0.out] at hs2
      have hsT : ¬ (s : Int) < (Tr.length : Int) := by omega
      have HF6 := Lib.hid hf6
      have HGR := Lib.hid (show greyOf σ6 = [] from by
        have e : greyOf σ6 = grs σ T' := by
          unfold greyOf grs
          rw [htr6.evo.ps]
          exact List.filter_congr fun a _ => by rw [htr6.col]
        rw [e]
        unfold grs
        rw [List.filter_eq_nil_iff]
        intro a _ e
        exact HT1.out a (by simpa using e))
      clear hf6 hi6 htr6 hk6 hg6 hs1 hs2 hle HBG5 HMP HNM HTR HTL HND HC0
      have hlen := HMP6.out.len
      dsimp only
      go_wp2_with fail
      refine (done_any w _ _ σ T' σ6 v6 HRD6.out.tr).mono ?_
      rw [HF6.out.1, HF6.out.2]
      rintro e w7 ⟨rfl, rfl⟩
      dsimp only
      go_wp2_with fail
      refine (Tn.step_end w _ _ σ T' σ6 v6 HRD6.out.tr HF6.out.1 HF6.out.2).mono ?_
      rintro e w7 ⟨rfl, rfl⟩
      dsimp only
      go_wp2_with fail
      refine (greys_any B ls σ6 _ HRD6.out.tr.hw.hp HRD6.out.tr.hw.tab).mono ?_
      rw [HGR.out]
      rintro e w8 ⟨a8, c8, rfl, _, hb8⟩
      have HRD8 := Lib.hid (HRD6.out.call hb8)
      have HMP8 := Lib.hid (HMP6.out.block (hb8.block mb HMP6.out.lt))
      clear hb8 HRD6 HMP6 hlen
      dsimp only [List.length_nil]
      go_wp2_with fail
      go_loopw [24, 25] (fun iv _ wr => ∃ r : Nat, r ≤ L.length ∧ iv = .int .i64 (r : Int) ∧ Rd w wr ⟨B, ls, zp, zp, R, zs, sa, sc⟩ σ T' σ6 v6 L A1 c1 ∧ BMap wr mb Tr (fun x => decide (x ∈ Tr))) (fun iv _ _ => L.length - (intOf iv).toNat)
      case atStart => exact ⟨0, Nat.zero_le _, rfl, HRD8.out, HMP8.out⟩
      case round =>
        clear HRD8 HMP8
        obtain ⟨r, hr, rfl, hrd, hmp⟩ := hrel
        have HRD := Lib.hid hrd
        have HMP := Lib.hid hmp
        clear hrd hmp
        obtain ⟨w9, rfl⟩ : ∃ w9 : World, w9 = wr := ⟨_, rfl⟩
        by_cases hrl : r < L.length
        · have hrl2 : (r : Int) < (L.length : Int) := by omega
          obtain ⟨a, ha⟩ : ∃ a, L[r]? = some a := ⟨_, List.getElem?_eq_getElem hrl⟩
          obtain ⟨g, hg, hgl, hcell⟩ := HRD.out.at_ ha
          have hab := HOB.out.bd a (List.mem_of_getElem? ha)
          have hlk := HMP.out.look a (wf_addr hab)
          subst hg
          clear ha
          by_cases hat : a ∈ Tr
          · have HCX := Lib.hid ((HRD.out.tr.col a).trans ((HTC.out a).1 hat))
            rw [decide_eq_true hat] at hlk
            clear hat
            go_wp2_with fail
            refine (color_any B ls σ6 a _ HRD.out.tr.hw.hp (by omega)).mono ?_
            rw [HCX.out]
            rintro e w10 ⟨rfl, hb10⟩
            have HRD10 := Lib.hid (HRD.out.call hb10)
            have HMP10 := Lib.hid (HMP.out.block (hb10.block mb HMP.out.lt))
            clear hb10 HRD HMP hcell hlk
            dsimp only
            go_wp2_with fail
            go_roundw
            case rel => exact ⟨r + 1, by omega, by go_num, HRD10.out, HMP10.out⟩
            case measure => simp [intOf]; omega
          · have HCX := Lib.hid (show col σ6 a = 0 from (HRD.out.tr.col a).trans (by
              rcases HT3.out a with h1 | h1 | h1
              · exact h1
              · exact absurd h1 (HT1.out a)
              · exact absurd ((HTC.out a).2 h1) hat))
            rw [decide_eq_false hat] at hlk
            clear hat
            go_wp2_with fail
            refine (color_any B ls σ6 a _ HRD.out.tr.hw.hp (by omega)).mono ?_
            rw [HCX.out]
            rintro e w10 ⟨rfl, hb10⟩
            have HRD10 := Lib.hid (HRD.out.call hb10)
            have HMP10 := Lib.hid (HMP.out.block (hb10.block mb HMP.out.lt))
            clear hb10 HRD HMP hcell hlk
            dsimp only
            go_wp2_with fail
            go_roundw
            case rel => exact ⟨r + 1, by omega, by go_num, HRD10.out, HMP10.out⟩
            case measure => simp [intOf]; omega
        · obtain rfl : r = L.length := by omega
          have hrl2 : ¬ (L.length : Int) < (L.length : Int) := by omega
          go_wp2_with fail
          have hA := fresh_alloc (Below.refl w9.heap.size w9) (.cells #[.int .i64 0, .int .i64 5, .int .i64 (-1)] 3)
          refine (shade_any w _ _ σ T' σ6 v6 H0.out (HRD.out.call hA).tr _ 3 3 [0, 5, -1] rfl (by omega) (fun x hx => by
            simp only [List.mem_cons, List.not_mem_nil, or_false] at hx
            rcases hx with rfl | rfl | rfl <;> decide) (three_src w9 _ fun i hi => HRD.out.tr.foot_lt hi)).mono ?_
          rw [show (shA σ R [0, 5, -1] (T', 0)).2 = 0 from three_none σ R T']
          rintro e w10 ⟨σ10, v10, rfl, htr10, _, _⟩
          have HE := Lib.hid htr10.hw.bel
          clear htr10 hA HRD HMP
          dsimp only
          go_wp2_with fail
          go_ret
          exact ⟨rfl, HE.out⟩
theorem walk (A : Option Addr) (n c : Nat) (of : List Int) (N : Int) (A2 : Option Addr) (m c2 : Nat) (lk : List (Int × Int × Int)) (A3 : Option Addr) (k c3 : Nat) (fr : List Int) (room : Int) (w : World) (hT : Pg.Tab w) (hl : of.length = n) (_wl : ∀ x ∈ of, (Lit.int .i64 x).wf = true) (hR : Reads w w.heap.size 1 A n c (of.map (.int .i64)))
    (_w1 : (Lit.int .i64 N).wf = true) (hl2 : lk.length = m) (wl2 : ∀ x ∈ lk, (Lit.int .i64 x.1).wf = true ∧ (Lit.int .i64 x.2.1).wf = true ∧ (Lit.int .i64 x.2.2).wf = true) (hR2 : Reads w w.heap.size 3 A2 m c2 (tripCells lk)) (hl3 : fr.length = k) (_wl3 : ∀ x ∈ fr, (Lit.int .i64 x).wf = true) (hR3 : Reads w w.heap.size 1 A3 k c3 (fr.map (.int .i64))) (_w4 : (Lit.int .i64 room).wf = true) :
    Calls Tryd.prog 12 #[.slice A n c, .int .i64 N, .slice A2 m c2, .slice A3 k c3, .int .i64 room] w fun e w' => e = .returned (.bool true) ∧ Below w.heap.size w w' := by
  have hmm : m ≤ 9223372036854775807 := by have := hR2.1; have := hR2.2.1; unfold maxLen at this; omega
  have hkk : k ≤ 9223372036854775807 := by have := hR3.1; have := hR3.2.1; unfold maxLen at this; omega
  by_cases h : n < 1 ∨ 8 < n ∨ N < 0 ∨ 80 < N ∨ 200 < m ∨ 20 < k
  · exact early A n c N A2 m c2 A3 k c3 room w hT hmm hkk h
  · obtain ⟨M, rfl⟩ : ∃ M : Nat, N = (M : Int) := ⟨N.toNat, by omega⟩
    exact core A n c of M A2 m c2 lk A3 k c3 fr room w hT hl hR hl2 (fun q hq => Bd.wf_max (wl2 q hq).2.2) hR2 hl3 hR3 (by omega) (by omega) (by omega) (by omega) (by omega)
end Go.Proofs.YtoajbjeiplolnaaDoorR.TintMarks
