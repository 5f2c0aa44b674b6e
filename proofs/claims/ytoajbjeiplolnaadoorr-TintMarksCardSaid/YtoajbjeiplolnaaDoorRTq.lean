/- Package tint: a step, a drain, a word shaded, where what holds of marking holds. -/
import Derived.Test.YtoajbjeiplolnaaDoorRTp
namespace Go.Proofs.YtoajbjeiplolnaaDoorR.Tn
open Go.RowKit Ar Hp
set_option linter.unusedSimpArgs false
set_option linter.unusedVariables false

/-- Behind a call that took the state on, with what holds of it. -/
def WentI (w : World) (E : TB) (σ0 : HS) (S : Int → Prop) (T' : TS) (v : Value) (r : Value) (wr : World) (e : Ending) (w' : World) : Prop := Inv E.ls σ0 S noX T' ∧ Went w E σ0 T' v r wr e w'
abbrev Wds (ls : List (List Int)) (σ : HS) : Prop := ∀ a, ∀ x ∈ ptrs ls σ a, x ≤ 9223372036854775807
theorem step_any (w wr : World) (E : TB) (σ0 : HS) (S : Int → Prop) (T : TS) (σ : HS) (v : Value) (h0 : 0 < w.heap.size) (h : TR w wr E σ0 T σ v) (hi : Inv E.ls σ0 S noX T) (hf : ¬ fin T) (hwd : Wds E.ls σ0) :
    Calls Tryd.prog 65 #[.pointer (some ⟨E.B.b, 0, none⟩), .pointer (some ⟨E.bp, 0, none⟩), .slice E.sa E.ls.length E.sc] wr
      (Went w E σ0 (stT E.ls σ0 E.room T).1 v (.int .i64 (stT E.ls σ0 E.room T).2) wr) := by
  rcases List.eq_nil_or_concat T.l with hn | ⟨l', a, hla⟩
  · refine step_lost w wr E σ0 T σ v h0 h hn ?_
    rcases hb : T.lost with _ | _
    · exact absurd ⟨hn, hb⟩ hf
    · rfl
  · rw [List.concat_eq_append] at hla
    exact step_grey w wr E σ0 T σ v h0 h l' a hla (hi.gr a (by rw [hla]; simp)) (hwd a)
/-- So many steps. -/
def it (ls : List (List Int)) (σ : HS) (room : Nat) : Nat → TS → TS
  | 0, T => T
  | n + 1, T => (stT ls σ room (it ls σ room n T)).1
/-- Behind Drain. -/
def Drained (w : World) (E : TB) (σ0 : HS) (S : Int → Prop) (T : TS) (v : Value) (wr : World) (e : Ending) (w' : World) : Prop :=
  ∃ (n : Nat) (T' : TS) (σ : HS) (v' : Value), e = .returned (.int .i64 (n : Int)) ∧ fin T' ∧ Inv E.ls σ0 S noX T' ∧ TR w w' E σ0 T' σ v' ∧ Kept (E.foot σ0 v) wr w' ∧ Pil.Grow v v' wr.heap.size ∧ n ≤ mu σ0 T ∧ cnt (All σ0) T'.c 2 ≤ cnt (All σ0) T.c 2 + n ∧ T' = it E.ls σ0 E.room n T ∧ ∀ i, i < n → ¬ fin (it E.ls σ0 E.room i T)
theorem drain_any (w wr : World) (E : TB) (σ0 : HS) (S : Int → Prop) (T : TS) (σ : HS) (v : Value) (most : Int) (h0 : 0 < w.heap.size) (h : TR w wr E σ0 T σ v) (hi : Inv E.ls σ0 S noX T) (hG : Gd σ0) (hr : 1 ≤ E.room) (hwd : Wds E.ls σ0) (hm : (mu σ0 T : Int) < most) (hm2 : mu σ0 T ≤ 1000000) :
    Calls Tryd.prog 69 #[.pointer (some ⟨E.B.b, 0, none⟩), .pointer (some ⟨E.bp, 0, none⟩), .int .i64 most, .slice E.sa E.ls.length E.sc] wr (Drained w E σ0 S T v wr) := by
  have H := Lib.hid h
  have HI := Lib.hid hi
  have HG := Lib.hid hG
  have HWD := Lib.hid hwd
  clear h hi hG hwd
  obtain ⟨wo, rfl⟩ : ∃ wo : World, wo = wr := ⟨_, rfl⟩
  go_enter Tryd.func69, Tryd.ntmps69
  go_wp2_with fail
  go_loopw [9] (fun nv wr => ∃ (n : Nat) (T1 : TS) (σ1 : HS) (v1 : Value), nv = .int .i64 (n : Int) ∧ Inv E.ls σ0 S noX T1 ∧ TR w wr E σ0 T1 σ1 v1 ∧ Kept (E.foot σ0 v) wo wr ∧ Pil.Grow v v1 wo.heap.size ∧ n + mu σ0 T1 ≤ mu σ0 T ∧ cnt (All σ0) T1.c 2 ≤ cnt (All σ0) T.c 2 + n ∧ T1 = it E.ls σ0 E.room n T ∧ ∀ i, i < n → ¬ fin (it E.ls σ0 E.room i T)) (fun nv _ => mu σ0 T + 1 - (intOf nv).toNat)
  case atStart => exact ⟨0, T, σ, v, rfl, HI.out, H.out, Kept.refl _ _, Pil.Grow.refl _ _, by omega, by omega, rfl, fun i hi => by omega⟩
  case round =>
    clear H HI
    obtain ⟨n, T1, σ1, v1, rfl, hi, htr, hk, hg, hmu, hct, hit, hnf⟩ := hrel
    have HIT := Lib.hid hit
    have HNF := Lib.hid hnf
    have H := Lib.hid htr
    have HI := Lib.hid hi
    have HK := Lib.hid hk
    have HG2 := Lib.hid hg
    clear htr hi hk hg hit hnf
    have hnm : (n : Int) < most := by omega
    by_cases hf : fin T1
    · have HF := Lib.hid hf
      clear hf
      go_wp2_with fail
      refine (step_end w _ E σ0 T1 σ1 v1 H.out HF.out.1 HF.out.2).mono ?_
      rintro e w2 ⟨rfl, rfl⟩
      dsimp only
      go_wp2_with fail
      go_ret
      exact ⟨n, T1, σ1, v1, rfl, HF.out, HI.out, H.out, HK.out, HG2.out, by omega, hct, HIT.out, HNF.out⟩
    · have HST := Lib.hid (HI.out.step HG.out hr H.out.len hf)
      have HC := Lib.hid (step_any w _ E σ0 S T1 σ1 v1 h0 H.out HI.out hf HWD.out)
      have hmu2 := HST.out.mu
      have hre : 0 ≤ (stT E.ls σ0 E.room T1).2 := by
        rcases HST.out.res with ⟨h, _⟩ | ⟨m, h, _⟩ <;> rw [h] <;> omega
      have hct2 : cnt (All σ0) (stT E.ls σ0 E.room T1).1.c 2 ≤ cnt (All σ0) T1.c 2 + 1 := by
        rcases HST.out.res with ⟨_, _, _, h⟩ | ⟨m, _, _, _, h⟩ <;> rw [h] <;> omega
      have HI2 := Lib.hid HST.out.inv
      have HNF2 := Lib.hid (show ∀ i, i < n + 1 → ¬ fin (it E.ls σ0 E.room i T) from fun i hi => by
        rcases Nat.lt_or_ge i n with h | h
        · exact HNF.out i h
        · obtain rfl : i = n := by omega
          rw [← HIT.out]
          exact hf)
      have HIT2 := Lib.hid (show (stT E.ls σ0 E.room T1).1 = it E.ls σ0 E.room (n + 1) T by rw [HIT.out]; rfl)
      obtain ⟨r, hr2⟩ : ∃ r, stT E.ls σ0 E.room T1 = r := ⟨_, rfl⟩
      rw [hr2] at HC hmu2 hre hct2 HI2 HIT2
      clear hf hr2 HST
      go_wp2_with fail
      refine HC.out.mono ?_
      rintro e w2 ⟨σ2, v2, rfl, h2, hk2, hg2⟩
      have H2 := Lib.hid h2
      have HK2 := Lib.hid (HK.out.step hk2 fun i hi e => foot_grow HG2.out hi e)
      have HG3 := Lib.hid (grow_trans HG2.out hg2 HK.out.size)
      clear h2 hk2 hg2 H HK HG2 HC
      have hre2 : ¬ r.2 < 0 := by omega
      dsimp only
      go_wp2_with fail
      go_roundw
      case rel => exact ⟨n + 1, r.1, σ2, v2, by go_num, HI2.out, H2.out, HK2.out, HG3.out, by omega, by omega, HIT2.out, HNF2.out⟩
      case measure => simp [intOf]; omega
/-- Behind the shading of one word. -/
def Shd1 (w : World) (E : TB) (σ0 : HS) (S : Int → Prop) (T : TS) (v : Value) (x : Int) (wr : World) (e : Ending) (w' : World) : Prop :=
  ∃ (n : Nat) (T' : TS) (σ : HS) (v' : Value), e = .returned (.int .i64 (n : Int)) ∧ Inv E.ls σ0 (fun a => S a ∨ fo σ0 x = some a) noX T' ∧ TR w w' E σ0 T' σ v' ∧ Kept (E.foot σ0 v) wr w' ∧ Pil.Grow v v' wr.heap.size ∧ (∀ a, T.c a ≠ 0 → T'.c a = T.c a) ∧
    (n = 1 ∧ (∃ a, fo σ0 x = some a ∧ T.c a = 0) ∨ n = 0 ∧ ∀ a, fo σ0 x = some a → T.c a ≠ 0) ∧ cnt (All σ0) T'.c 2 = cnt (All σ0) T.c 2 ∧ cnt (All σ0) T'.c 1 = cnt (All σ0) T.c 1 + n
theorem shade1_any (w wr : World) (E : TB) (σ0 : HS) (S : Int → Prop) (T : TS) (σ : HS) (v : Value) (x : Int) (A : Option Addr) (c : Nat) (h0 : 0 < w.heap.size) (h : TR w wr E σ0 T σ v) (hi : Inv E.ls σ0 S noX T) (hG : Gd σ0) (hx : x ≤ 9223372036854775807)
    (hr : ∃ sb off, A = some ⟨sb, off, none⟩ ∧ sb < wr.heap.size ∧ ¬ E.foot σ0 v sb ∧ wr.cell? ⟨sb, off, none⟩ = some (.int .i64 x)) :
    Calls Tryd.prog 62 #[.pointer (some ⟨E.B.b, 0, none⟩), .pointer (some ⟨E.bp, 0, none⟩), .slice A 1 c] wr (Shd1 w E σ0 S T v x wr) := by
  obtain ⟨sb, off, rfl, h1, h2, h3⟩ := hr
  refine (shade_any w wr E σ0 T σ v h0 h _ 1 c [x] rfl (by omega) (fun y hy => by rw [List.mem_singleton.1 hy]; exact hx) (fun j z hz => by
    obtain ⟨rfl, rfl⟩ : j = 0 ∧ z = x := by
      rcases j with _ | j
      · exact ⟨rfl, by simpa using hz.symm⟩
      · simp at hz
    exact ⟨sb, off, rfl, h1, h2, h3⟩)).mono ?_
  rintro e w' ⟨σ', v', rfl, htr, hk, hg⟩
  obtain ⟨i1, _, n, i3, i4, i5⟩ := Inv.sh1_ (room := E.room) (p := (T, 0)) (S' := fun a => S a ∨ fo σ0 x = some a) (v := x) hG hi (fun b hb => .base (.inr hb)) (fun a ha => .inl ha) (fun a ha => ha)
  refine ⟨(shA σ0 E.room [x] (T, 0)).2, _, σ', v', rfl, i1, htr, hk, hg, fun a ha => shA_keep σ0 E.room [x] (T, 0) ha, ?_, i5, ?_⟩
  · show ((sh1 σ0 E.room (T, 0) x).2 = 1 ∧ _) ∨ ((sh1 σ0 E.room (T, 0) x).2 = 0 ∧ _)
    rcases hf : fo σ0 x with _ | a
    · rw [sh1_none hf]
      exact .inr ⟨rfl, fun a ha => by cases ha⟩
    · by_cases hc : T.c a = 0
      · rw [sh1_new (p := (T, 0)) hf hc]
        exact .inl ⟨rfl, a, rfl, hc⟩
      · rw [sh1_old (p := (T, 0)) hf hc]
        exact .inr ⟨rfl, fun b hb => by injection hb with hb; rw [← hb]; exact hc⟩
  · have i3 : (sh1 σ0 E.room (T, 0) x).2 = 0 + n := i3
    have i4 : cnt (All σ0) (sh1 σ0 E.room (T, 0) x).1.c 1 = cnt (All σ0) T.c 1 + n := i4
    show cnt (All σ0) (sh1 σ0 E.room (T, 0) x).1.c 1 = cnt (All σ0) T.c 1 + (sh1 σ0 E.room (T, 0) x).2
    omega
end Go.Proofs.YtoajbjeiplolnaaDoorR.Tn
