/- Package page: the contracts of New, Mark, slots, Sweep, Count, All, Class; and those at nil. -/
import Derived.Test.YtoajbjeiplolnaaDoorRPg3
namespace Go.Proofs.YtoajbjeiplolnaaDoorR.Pg
open Go.RowKit Bit
set_option linter.unusedSimpArgs false
set_option linter.unusedVariables false

theorem infoI : (Tryd.prog.info? 3).map (fun i => (i.zero, i.size, i.bytes)) = some (some (.int .i64 0), 1, 8) := by kernel_rfl
theorem csl_bd (c : Int) : 0 ≤ Cls.csl c ∧ Cls.csl c ≤ 32 := by unfold Cls.csl; omega
theorem new_no (c : Int) (w : World) (h : Cls.csl c = 0) :
    Calls Tryd.prog 70 #[.int .i64 c] w fun e w' => e = .returned (.tuple #[.pointer none, .int .i64 1]) ∧ w = w' := by
  have H := Lib.hid h
  clear h
  go_enter Tryd.func70, Tryd.ntmps70
  go_wp2_with fail
  refine (Cls.slots_any _ _).mono ?_
  rw [H.out]
  rintro e w1 ⟨rfl, rfl⟩
  dsimp only
  go_wp2_with fail
  go_ret2
  exact ⟨rfl, rfl⟩
theorem new_yes (c : Int) (n : Nat) (w : World) (h : Cls.csl c = (n : Int)) (h0 : 0 < n) :
    Calls Tryd.prog 70 #[.int .i64 c] w fun e w' => e = .returned (.tuple #[.pointer (some ⟨w.heap.size, 0, none⟩), .int .i64 0]) ∧ PageAt w' w.heap.size c n 0 0 ∧ Below w.heap.size w w' := by
  have hn : n ≤ 32 := by have := csl_bd c; omega
  have H := Lib.hid h
  have hn0 : ((n : Int) == 0) = false := by simp; omega
  clear h
  go_enter Tryd.func70, Tryd.ntmps70
  go_wp2_with fail
  refine (Cls.slots_any _ _).mono ?_
  rw [H.out]
  rintro e w1 ⟨rfl, rfl⟩
  dsimp only
  go_wp2_with fail
  go_ret2
  exact ⟨rfl, ⟨Blk.new w _ _, hn, h0, by omega, by omega, fun i hi => by simp at hi, fun i hi => by simp at hi⟩, (Below.refl _ _).alloc (Nat.le_refl _) _⟩
theorem class_any (b : Nat) (c : Int) (n U M : Nat) (w : World) (h : PageAt w b c n U M) :
    Calls Tryd.prog 33 #[.pointer (some ⟨b, 0, none⟩)] w fun e w' => e = .returned (.int .i64 c) ∧ w = w' := by
  obtain ⟨c0, c1, c2, c3, f0, f1, f2, f3⟩ := h.blk.four
  have hn0 : ((n : Int) == 0) = false := by have := h.n0; simp; omega
  clear h
  go_enter Tryd.func33, Tryd.ntmps33
  go_wp2_with fail
  go_ret
  exact ⟨rfl, rfl⟩
theorem count_any (b : Nat) (c : Int) (n U M : Nat) (w : World) (h : PageAt w b c n U M) :
    Calls Tryd.prog 75 #[.pointer (some ⟨b, 0, none⟩)] w fun e w' => e = .returned (.tuple #[.int .i64 n, .int .i64 (bl U).length]) ∧ ∃ k, w' = w.drewN k := by
  obtain ⟨c0, c1, c2, c3, f0, f1, f2, f3⟩ := h.blk.four
  have hU := h.hU
  have HO := Lib.hid (fun k => (ones_any U hU (w.drewN k)).mono fun e w' (hh : e = .returned (.int .i64 (popc U)) ∧ ∃ n, w' = (w.drewN k).drewN n) => (⟨hh.1.trans (by rw [popc_bl U hU]), hh.2.elim fun m hm => ⟨_, hm.trans (World.drewN_drewN _ _ _)⟩⟩ : e = .returned (.int .i64 (bl U).length) ∧ ∃ n, w' = w.drewN n))
  clear h
  go_enter Tryd.func75, Tryd.ntmps75
  go_wp2_with fail
  go_quiet ((go_at_call 117; exact HO.out _))
  go_wp2_with fail
  go_ret2
  exact ⟨rfl, _, rfl⟩
/-- The numbers of a word, in memory of the call's own. -/
def ints (l : List Nat) : List Int := l.map fun (k : Nat) => (k : Int)
theorem ints_len (l : List Nat) : (ints l).length = l.length := by simp [ints]
def nats (l : List Nat) : List Value := (ints l).map (Value.int .i64)
def Lists (l : List Nat) (w : World) (e : Ending) (w' : World) : Prop :=
  ∃ a c, e = .returned (.slice a l.length c) ∧ w'.ownsRow w.heap.size 3 1 (.slice a l.length c) l.length (nats l) ∧ Below w.heap.size w w'
set_option maxHeartbeats 1000000 in
theorem slots_any (x : Nat) (hx : x < 4294967296) (w : World) (hT : Tab w) : Calls Tryd.prog 118 #[.int .u32 x] w (Lists (bl x) w) := by
  obtain ⟨i0, hi0, hz0, hz1, hz2⟩ := info_parts infoI
  have HI := Lib.hid (⟨hi0, hz0, hz1, hz2⟩ : Tryd.prog.info? 3 = some i0 ∧ i0.zero = some (.int .i64 0) ∧ i0.size = 1 ∧ i0.bytes = 8)
  have HT := Lib.hid hT
  clear hi0 hz0 hz1 hz2 hT
  go_enter Tryd.func118, Tryd.ntmps118
  go_wp2_with fail
  go_loopw [0, 3] (fun y v wr => ∃ (z : Nat) (done : List Nat) (a : Option Addr) (c : Nat), z < 4294967296 ∧ y = .int .u32 z ∧ v = .slice a done.length c ∧ bl x = done ++ bl z ∧ wr.ownsRow w.heap.size 3 1 (.slice a done.length c) done.length (nats done) ∧ Below w.heap.size w wr) (fun y _ _ => (intOf y).toNat)
  case atStart => exact ⟨x, [], none, 0, hx, rfl, rfl, rfl, World.ownsRow_nil _ _ _ _, Below.refl _ _⟩
  case round =>
    obtain ⟨z, done, a, c, hz, rfl, rfl, hd, ho, hb⟩ := hrel
    have HD := Lib.hid hd
    have HO := Lib.hid ho
    have HB := Lib.hid hb
    have hB := hb.size
    clear hd ho hb
    by_cases h0 : z = 0
    · subst h0
      go_wp2_with fail
      go_ret
      have : bl x = done := by rw [HD.out, bl_zero, List.append_nil]
      rw [this]
      exact ⟨a, c, rfl, HO.out, HB.out⟩
    · have hz0 : ((z : Int) != 0) = true := by simp; exact h0
      have hlen : done.length ≤ 32 := by have := sl_len 32 x.testBit; have e : (bl x).length ≤ 32 := this; rw [HD.out, List.length_append] at e; omega
      have hst := bl_step h0 hz
      have hzz : z &&& (z - 1) < 4294967296 := by have := strike_lt h0; omega
      have hlt := strike_lt h0
      have hand := and32 z (z - 1) hz (by omega)
      rw [show ((z - 1 : Nat) : Int) = (z : Int) - 1 by omega] at hand
      have hw1 : IntKind.u32.wrap ((z : Int) - 1) = (z : Int) - 1 := by simp [IntKind.wrap, IntKind.signed, IntKind.bits]; omega
      have hz1 : (1 : Int) ≤ (z : Int) := by omega
      have hz2 : (z : Int) ≤ 4294967295 := by omega
      generalize hq : z &&& (z - 1) = q at *
      generalize hk : Lib.ctz 32 z = k at *
      have HK := Lib.hid hk
      have HS := Lib.hid hst
      clear hst h0 hq hk
      have hlen2 : (done.length : Int) ≤ 32 := by omega
      go_wp2_with fail
      refine (tz_any z hz _ (HT.out.below HB.out (HT.out).1)).mono ?_
      rw [HK.out]
      rintro e w1 ⟨rfl, rfl⟩
      dsimp only
      go_wp2_with (first
        | (at_builtin; go_loud (refine wpList_app _ rfl _ _ 27 rfl w.heap.size 3 i0 (.int .i64 0) 1 8 Tryd.underlying27 HI.out.1 HI.out.2.1 HI.out.2.2.1 HI.out.2.2.2 rfl (by decide) _ _ _ rfl (HO.out.alloc _) (wr.heap.size + 1) _ 1 1 [.int .i64 (k : Int)] rfl (Blk.reads (Blk.new wr _ _) (by simp) rfl rfl (by decide)) ?c1 ?c2 ?c3 ?c4 ?_))
        | fail)
      case c1 => intro u hu; simp at hu; subst hu; rfl
      case c2 => unfold maxLen; omega
      case c3 => omega
      case c4 => simp; omega
      intro a' c' w2 ho2 hg2 hat2
      have HO2 := Lib.hid (show w2.ownsRow w.heap.size 3 1 (.slice a' (done ++ [k]).length c') (done ++ [k]).length (nats (done ++ [k])) from by simpa [nats, ints] using ho2)
      have HW := Lib.hid (show Below w.heap.size w w2 from (fresh_alloc HB.out _).grown hg2 (by simp; omega) (fun k hk => (HO.out.lt k hk).1))
      have HL := Lib.hid (show (done ++ [k]).length = done.length + 1 by simp)
      clear ho2 hg2 hat2
      go_wp2_with fail
      go_roundw
      case rel => exact ⟨q, done ++ [k], a', c', hzz, rfl, by rw [HL.out], by rw [HD.out, HS.out]; simp, HO2.out, HW.out⟩
      case measure => simp [intOf]; omega
end Go.Proofs.YtoajbjeiplolnaaDoorR.Pg
