/- The walk of besomlaw8.PileClears: it returns true, and writes nothing that was there. -/
import Derived.Test.YtnolkgciapggdaaPileA
namespace Go.Proofs.Ytnolkgciapggdaa.PileClears
open Go.RowKit Pil
set_option linter.unusedSimpArgs false
set_option linter.unusedVariables false

/-- Two piles have nothing in common. -/
def Disj (p q : Nat) (vp vq : Value) : Prop := ∀ k, own p vp k → ¬ own q vq k
theorem Disj.left {p q n : Nat} {vp vq vp' : Value} (h : Disj p q vp vq) (hg : Grow vp vp' n) (hq : ∀ k, own q vq k → k < n) : Disj p q vp' vq := by
  rintro k (rfl | hk) hk2
  · exact h k (.inl rfl) hk2
  · rcases hg k hk with h1 | h1
    · exact h k (.inr h1) hk2
    · have := hq k hk2; omega
theorem Disj.right {p q n : Nat} {vp vq vq' : Value} (h : Disj p q vp vq) (hg : Grow vq vq' n) (hp : ∀ k, own p vp k → k < n) : Disj p q vp vq' := by
  rintro k hk (rfl | hk2)
  · exact h k hk (.inl rfl)
  · rcases hg k hk2 with h1 | h1
    · exact h k hk (.inr h1)
    · have := hp k hk; omega
theorem keep_q {w w' : World} {B p q room : Nat} {l : List Int} {lost : Bool} {vp vq : Value} (hd : Disj p q vp vq) (h : PileAt w B q room l lost vq) (hk : Kept (own p vp) w w') : PileAt w' B q room l lost vq :=
  h.keep fun k e => hk.block k (h.lt e) (fun e' => hd k e' e)
theorem keep_p {w w' : World} {B p q room : Nat} {l : List Int} {lost : Bool} {vp vq : Value} (hd : Disj p q vp vq) (h : PileAt w B p room l lost vp) (hk : Kept (own q vq) w w') : PileAt w' B p room l lost vp :=
  h.keep fun k e => hk.block k (h.lt e) (fun e' => hd k e e')
theorem lower {w : World} {B B' b room : Nat} {l : List Int} {lost : Bool} {v : Value} (h : PileAt w B b room l lost v) (hB : B' ≤ B) : PileAt w B' b room l lost v := by
  refine ⟨h.1, ⟨h.2.1.1, ?_⟩, by have := h.2.2; omega⟩
  rcases h.2.1.2 with hn | ⟨g, cap, cur, hv, hg, rest⟩
  · exact .inl hn
  · exact .inr ⟨g, cap, cur, hv, by omega, rest⟩
/-- Both piles, apart, with the same in them. -/
def Two (B p q room : Nat) (l : List Int) (lost : Bool) (w wr : World) : Prop :=
  ∃ vp vq, PileAt wr B p room l lost vp ∧ PileAt wr B q room l lost vq ∧ Disj p q vp vq ∧ Below w.heap.size w wr
def Rel (B p q room : Nat) (ys : List Int) (lost : Bool) (w : World) (i : Value) (wr : World) : Prop :=
  ∃ k : Nat, k ≤ room + 1 ∧ i = .int .i64 k ∧ Two B p q room (ys.take (ys.length - k)) lost w wr

theorem early (r : Int) (A : Option Addr) (n c : Nat) (w : World) (hm : n ≤ 9223372036854775807) (h : r < 1 ∨ 50 < r ∨ 100 < n) :
    Calls Try.prog 8 #[.int .i64 r, .slice A n c] w fun e w' => e = .returned (.bool true) ∧ Below w.heap.size w w' := by
  by_cases h1 : r < 1
  · clear h
    go_enter Try.func8, Try.ntmps8
    go_wp2_with fail
    refine (alive _).mono ?_
    rintro e w1 ⟨rfl, hb⟩
    dsimp only
    go_wp2
    go_ret
    exact ⟨rfl, hb⟩
  by_cases h2 : 50 < r
  · clear h
    go_enter Try.func8, Try.ntmps8
    go_wp2_with fail
    refine (alive _).mono ?_
    rintro e w1 ⟨rfl, hb⟩
    dsimp only
    go_wp2
    go_ret
    exact ⟨rfl, hb⟩
  · have h3 : 100 < n := by omega
    clear h
    go_enter Try.func8, Try.ntmps8
    go_wp2_with fail
    refine (alive _).mono ?_
    rintro e w1 ⟨rfl, hb⟩
    dsimp only
    go_wp2
    go_ret
    exact ⟨rfl, hb⟩

set_option maxRecDepth 100000 in
set_option maxHeartbeats 1000000 in
theorem core (room : Nat) (A : Option Addr) (n c : Nat) (xs : List Int) (w : World) (r1 : 1 ≤ room) (r2 : room ≤ 50) (hn : n ≤ 100) (l : xs.length = n) (wx : ∀ z ∈ xs, (Lit.int .i64 z).wf = true) (R : Reads w w.heap.size 1 A n c (xs.map (.int .i64))) :
    Calls Try.prog 8 #[.int .i64 room, .slice A n c] w fun e w' => e = .returned (.bool true) ∧ Below w.heap.size w w' := by
  have HL := Lib.hid l
  have HR := Lib.hid R
  have HX := Lib.hid wx
  clear l R wx
  go_enter Try.func8, Try.ntmps8
  go_wp2_with fail
  refine (alive _).mono ?_
  rintro e w0 ⟨rfl, hb⟩
  dsimp only
  go_wp2_with fail
  refine (new_any _ _).mono ?_
  rw [show (min (max (room : Int) 1) 1000).toNat = room by omega]
  rintro e w1 ⟨rfl, h1, hb1⟩
  have hw1 := fresh_call hb hb1
  have H1 := Lib.hid h1
  have hB : w.heap.size ≤ w0.heap.size := hb.size
  have hbl := h1.1.lt
  clear h1 hb hb1
  dsimp only
  go_wp2_with fail
  refine (new_any _ _).mono ?_
  rw [show (min (max (room : Int) 1) 1000).toNat = room by omega]
  rintro e w2 ⟨rfl, h2, hb2⟩
  have hw2 := fresh_call hw1 hb2
  have hP2 := H1.out.below hb2
  have HP := Lib.hid hP2
  have HQ := Lib.hid (lower h2 (Nat.le_of_lt hbl))
  have hql := h2.1.lt
  have hsrc : ∀ (wx : World), Below w.heap.size w wx → ∀ v pb, (∀ k, own pb v k → w0.heap.size ≤ k) → ∀ j z, xs[j]? = some z → ∃ sb off, A = some ⟨sb, off, none⟩ ∧ sb < wx.heap.size ∧ ¬ own pb v sb ∧ wx.cell? ⟨sb, off + j, none⟩ = some (.int .i64 z) := by
    intro wx hwx v pb hv j z hz
    obtain ⟨sb, off, rfl, hs, hc⟩ := (HR.out.below hwx).at_ (j := j) (u := .int .i64 z) (by rw [List.getElem?_map, hz]; rfl)
    have := hwx.size
    exact ⟨_, _, rfl, by omega, fun h => by have := hv _ h; omega, hc⟩
  have HS := Lib.hid hsrc
  have hd : Disj w0.heap.size w1.heap.size (.slice none 0 0) (.slice none 0 0) := by
    rintro k (rfl | hk) (e | e)
    · omega
    · simp [Value.ownBlock] at e
    · simp [Value.ownBlock] at hk
    · simp [Value.ownBlock] at hk
  have HD := Lib.hid hd
  clear h2 hb2 hP2 H1 hw1 hsrc hd
  dsimp only
  go_wp2_with fail
  refine (put_any _ _ _ _ _ _ A n c xs _ HP.out HL.out (by simp) (by omega) (by omega) HX.out (HS.out _ hw2 _ _ (fun k hk => HP.out.base hk))).mono ?_
  rintro e w3 ⟨rfl, ⟨v3, h3, hg3⟩, hk3⟩
  have hw3 : Below w.heap.size w w3 := hw2.trans ((kept_below HP.out hk3).mono hB)
  have HP3 := Lib.hid h3
  have HQ3 := Lib.hid (keep_q HD.out HQ.out hk3)
  have HD3 := Lib.hid (HD.out.left hg3 (fun k hk => HQ.out.lt hk))
  clear h3 hk3 hg3 HP HQ HD hw2
  dsimp only
  go_wp2_with fail
  refine (clear_any _ _ _ _ _ _ _ HP3.out).mono ?_
  rintro e w4 ⟨rfl, h4, hk4⟩
  have hw4 : Below w.heap.size w w4 := hw3.trans ((kept_below HP3.out hk4).mono hB)
  have HP4 := Lib.hid h4
  have HQ4 := Lib.hid (keep_q HD3.out HQ3.out hk4)
  have HD4 := Lib.hid (HD3.out.left (vp' := .slice none 0 0) (n := w3.heap.size) (fun k e => by simp [Value.ownBlock] at e) (fun k hk => HQ3.out.lt hk))
  clear h4 hk4 HP3 HQ3 HD3 hw3
  dsimp only
  go_wp2_with (first
    | (go_at_call 26; refine (lost_any _ _ _ _ _ _ _ HP4.out).mono ?_; rintro e w4 ⟨rfl, rfl⟩; dsimp only)
    | (go_at_call 27; refine (len_any _ _ _ _ _ _ _ HP4.out).mono ?_; rintro e w4 ⟨rfl, rfl⟩; dsimp only))
  refine (put_any _ _ _ _ _ _ A n c xs _ HP4.out HL.out (by simp) (by omega) (by omega) HX.out (HS.out _ hw4 _ _ (fun k hk => HP4.out.base hk))).mono ?_
  rintro e w5 ⟨rfl, ⟨v5, h5, hg5⟩, hk5⟩
  have hw5 : Below w.heap.size w w5 := hw4.trans ((kept_below HP4.out hk5).mono hB)
  rw [List.nil_append, List.length_nil, Nat.sub_zero, Bool.false_or] at h5
  rw [List.length_nil, Nat.sub_zero]
  have HP5 := Lib.hid h5
  have HQ5 := Lib.hid (keep_q HD4.out HQ4.out hk5)
  have HD5 := Lib.hid (HD4.out.left hg5 (fun k hk => HQ4.out.lt hk))
  clear h5 hk5 hg5 HP4 HQ4 HD4 hw4
  dsimp only
  go_wp2_with fail
  refine (put_any _ _ _ _ _ _ A n c xs _ HQ5.out HL.out (by simp) (by omega) (by omega) HX.out (HS.out _ hw5 _ _ (fun k hk => HQ5.out.base hk))).mono ?_
  rintro e w6 ⟨rfl, ⟨v6, h6, hg6⟩, hk6⟩
  have hw6 : Below w.heap.size w w6 := hw5.trans ((kept_below HQ5.out hk6).mono hB)
  rw [List.nil_append, List.length_nil, Nat.sub_zero, Bool.false_or] at h6
  rw [List.length_nil, Nat.sub_zero]
  have HQ6 := Lib.hid h6
  have HP6 := Lib.hid (keep_p HD5.out HP5.out hk6)
  have HD6 := Lib.hid (HD5.out.right hg6 (fun k hk => HP5.out.lt hk))
  have H0 := Lib.hid (show Rel w0.heap.size w0.heap.size w1.heap.size room (xs.take room) (decide (room < n)) w (.int .i64 0) w6 from
    ⟨0, by omega, rfl, v5, v6, by rw [Nat.sub_zero, List.take_length]; exact HP6.out, by rw [Nat.sub_zero, List.take_length]; exact HQ6.out, HD6.out, hw6⟩)
  have hyl : (xs.take room).length ≤ room := by simp; omega
  clear h6 hk6 hg6 HP5 HQ5 HD5 HD6 hw5 hw6
  generalize xs.take room = ys at *
  generalize decide (room < n) = lost at *
  generalize min n room = mm at *
  dsimp only
  go_wp2_with fail
  refine (lost_any _ _ _ _ _ _ _ HP6.out).mono ?_
  rintro e w7 ⟨rfl, rfl⟩
  dsimp only
  go_wp2_with fail
  refine (lost_any _ _ _ _ _ _ _ HQ6.out).mono ?_
  rintro e w7 ⟨rfl, rfl⟩
  dsimp only
  go_wp2_with fail
  clear HP6 HQ6
  go_loopw [7] (fun i wr => Rel w0.heap.size w0.heap.size w1.heap.size room ys lost w i wr) (fun i _ => room + 1 - (intOf i).toNat)
  case atStart => exact H0.out
  case round =>
    clear H0
    obtain ⟨k, hk, rfl, vp, vq, hp, hq, hd, hw⟩ := hrel
    have HP := Lib.hid hp
    have HQ := Lib.hid hq
    have HD := Lib.hid hd
    clear hp hq hd
    by_cases hlt : k < room + 1
    · by_cases hkl : k < ys.length
      · obtain ⟨j, hj⟩ : ∃ j, ys.length - k = j + 1 := ⟨ys.length - k - 1, by omega⟩
        have hjx : j < ys.length := by omega
        have hts := take_snoc (List.getElem?_eq_getElem hjx)
        have hj' : ys.length - (k + 1) = j := by omega
        have hp := HP.out
        have hq := HQ.out
        rw [hj, hts] at hp hq
        have HP1 := Lib.hid hp
        have HQ1 := Lib.hid hq
        have HJ := Lib.hid hj'
        clear hp hq HP HQ hj hts hj'
        generalize ys[j] = x at *
        go_wp2_with fail
        refine (take_some _ _ _ _ _ _ _ _ HP1.out).mono ?_
        rintro e w3 ⟨rfl, ⟨v3, h3, hg3⟩, hk3⟩
        have hw3 := hw.trans ((kept_below HP1.out hk3).mono hB)
        have HP3 := Lib.hid h3
        have HQ3 := Lib.hid (keep_q HD.out HQ1.out hk3)
        have HD3 := Lib.hid (HD.out.left hg3 (fun k hk => HQ1.out.lt hk))
        clear h3 hk3 hg3 HP1 HQ1 HD hw
        dsimp only
        go_wp2_with fail
        refine (take_some _ _ _ _ _ _ _ _ HQ3.out).mono ?_
        rintro e w4 ⟨rfl, ⟨v4, h4, hg4⟩, hk4⟩
        have hw4 := hw3.trans ((kept_below HQ3.out hk4).mono hB)
        have HQ4 := Lib.hid h4
        have HP4 := Lib.hid (keep_p HD3.out HP3.out hk4)
        have HD4 := Lib.hid (HD3.out.right hg4 (fun k hk => HP3.out.lt hk))
        clear h4 hk4 hg4 HP3 HQ3 HD3 hw3
        dsimp only
        go_wp2_with fail
        exact ⟨⟨k + 1, by omega, by go_num, v3, v4, by rw [HJ.out]; exact HP4.out, by rw [HJ.out]; exact HQ4.out, HD4.out, hw4⟩, by simp [intOf]; omega⟩
      · have hj : ys.length - k = 0 := by omega
        have hj' : ys.length - (k + 1) = 0 := by omega
        have hp := HP.out
        have hq := HQ.out
        rw [hj, List.take_zero] at hp hq
        have HP1 := Lib.hid hp
        have HQ1 := Lib.hid hq
        have HJ := Lib.hid hj'
        clear hp hq HP HQ hj hj'
        go_wp2_with fail
        refine (take_none _ _ _ _ _ _ HP1.out).mono ?_
        rintro e w3 ⟨rfl, rfl⟩
        dsimp only
        go_wp2_with fail
        refine (take_none _ _ _ _ _ _ HQ1.out).mono ?_
        rintro e w3 ⟨rfl, rfl⟩
        dsimp only
        go_wp2_with fail
        exact ⟨⟨k + 1, by omega, by go_num, vp, vq, by rw [HJ.out]; exact HP1.out, by rw [HJ.out]; exact HQ1.out, HD.out, hw⟩, by simp [intOf]; omega⟩
    · have hj : ys.length - k = 0 := by omega
      have hp := HP.out
      rw [hj, List.take_zero] at hp
      have HP1 := Lib.hid hp
      clear hp HP hj
      go_wp2_with fail
      refine (len_any _ _ _ _ _ _ _ HP1.out).mono ?_
      rintro e w3 ⟨rfl, rfl⟩
      dsimp only
      go_wp2_with fail
      go_ret
      exact ⟨rfl, hw⟩

theorem walk (r : Int) (A : Option Addr) (n c : Nat) (xs : List Int) (w : World) (_wr : (Lit.int .i64 r).wf = true) (l : xs.length = n) (wx : ∀ z ∈ xs, (Lit.int .i64 z).wf = true) (R : Reads w w.heap.size 1 A n c (xs.map (.int .i64))) :
    Calls Try.prog 8 #[.int .i64 r, .slice A n c] w fun e w' => e = .returned (.bool true) ∧ Below w.heap.size w w' := by
  have hm : n ≤ 9223372036854775807 := by have := R.1; have := R.2.1; unfold maxLen at this; omega
  by_cases h : r < 1 ∨ 50 < r ∨ 100 < n
  · exact early r A n c w hm h
  · obtain ⟨room, rfl⟩ := Int.eq_ofNat_of_zero_le (a := r) (by omega)
    exact core room A n c xs w (by omega) (by omega) (by omega) l wx R
end Go.Proofs.Ytnolkgciapggdaa.PileClears
