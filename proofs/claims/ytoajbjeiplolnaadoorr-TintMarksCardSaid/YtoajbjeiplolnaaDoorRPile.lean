/- Package pile: what a pile is in memory, and the contracts of its methods. -/
import Derived.Test.YtoajbjeiplolnaaDoorRProg
import Derived.Test.YtoajbjeiplolnaaDoorRGn
import Derived.Test.YtoajbjeiplolnaaDoorRMap
namespace Go.Proofs.YtoajbjeiplolnaaDoorR.Pil
open Go.RowKit
set_option linter.unusedSimpArgs false
set_option linter.unusedVariables false

theorem info64 : (Tryd.prog.info? 2).map (fun i => (i.zero, i.size, i.bytes)) = some (some (.int .i64 0), 1, 8) := by kernel_rfl

theorem own_drewN {w : World} {base : Nat} {e : TypeId} {size : Nat} {v : Value} {n : Nat} {xs : List Value} (h : w.ownsRow base e size v n xs) (k : Nat) : (w.drewN k).ownsRow base e size v n xs := h

theorem take_snoc {xs : List Int} {k : Nat} {x : Int} (h : xs[k]? = some x) : xs.take (k + 1) = xs.take k ++ [x] := by
  obtain ⟨hl, rfl⟩ := List.getElem?_eq_some_iff.1 h
  rw [List.take_succ_eq_append_getElem hl]

/-- Block b is a pile with room for so many, its numbers are l (in the value v), all that it owns lies from block B on. -/
def PileAt (w : World) (B b room : Nat) (l : List Int) (lost : Bool) (v : Value) : Prop :=
  Blk w b #[.int .i64 room, v, .bool lost] 144 ∧ w.ownsRow B 2 1 v l.length (l.map (.int .i64)) ∧ B ≤ b
/-- What a call on the pile may turn. -/
def own (b : Nat) (v : Value) (k : Nat) : Prop := k = b ∨ v.ownBlock = some k
/-- The new value's row is the old one, or new. -/
def Grow (v v' : Value) (n : Nat) : Prop := ∀ k, v'.ownBlock = some k → v.ownBlock = some k ∨ n ≤ k
theorem Grow.refl (v : Value) (n : Nat) : Grow v v n := fun _ h => .inl h
theorem PileAt.base {w : World} {B b room : Nat} {l : List Int} {lost : Bool} {v : Value} (h : PileAt w B b room l lost v) {k : Nat} (hk : own b v k) : B ≤ k := by
  rcases hk with rfl | hk
  · exact h.2.2
  · exact (h.2.1.lt k hk).1
theorem PileAt.lt {w : World} {B b room : Nat} {l : List Int} {lost : Bool} {v : Value} (h : PileAt w B b room l lost v) {k : Nat} (hk : own b v k) : k < w.heap.size := by
  rcases hk with rfl | hk
  · exact h.1.lt
  · exact (h.2.1.lt k hk).2
/-- Another's call leaves a pile alone. -/
theorem PileAt.keep {w w' : World} {B b room : Nat} {l : List Int} {lost : Bool} {v : Value} (h : PileAt w B b room l lost v) (hk : ∀ k, own b v k → w'.heap[k]? = w.heap[k]?) : PileAt w' B b room l lost v :=
  ⟨(hk b (.inl rfl)).trans h.1, own_block h.2.1 (fun k e => hk k (.inr e)), h.2.2⟩
theorem PileAt.below {w w' : World} {B b room : Nat} {l : List Int} {lost : Bool} {v : Value} (h : PileAt w B b room l lost v) (hb : Below w.heap.size w w') : PileAt w' B b room l lost v :=
  h.keep fun k hk => hb.block k (h.lt hk)
theorem kept_below {w w' : World} {B b room : Nat} {l : List Int} {lost : Bool} {v : Value} (h : PileAt w B b room l lost v) (hk : Kept (own b v) w w') : Below B w w' :=
  hk.below (by have := h.1.lt; have := h.2.2; omega) (fun i hi e => by have := h.base e; omega)

theorem len_any (B b room : Nat) (l : List Int) (lost : Bool) (v : Value) (w : World) (h : PileAt w B b room l lost v) :
    Calls Tryd.prog 63 #[.pointer (some ⟨b, 0, none⟩)] w fun e w' => e = .returned (.int .i64 l.length) ∧ w = w' := by
  obtain ⟨hb, ho, _⟩ := h
  obtain ⟨a, c, rfl⟩ := slice_form ho
  obtain ⟨c0, c1, c2, f0, f1, f2⟩ := hb.three
  clear hb ho
  go_enter Tryd.func63, Tryd.ntmps63
  go_wp2
  go_ret
  exact ⟨rfl, rfl⟩
theorem lost_any (B b room : Nat) (l : List Int) (lost : Bool) (v : Value) (w : World) (h : PileAt w B b room l lost v) :
    Calls Tryd.prog 64 #[.pointer (some ⟨b, 0, none⟩)] w fun e w' => e = .returned (.bool lost) ∧ w = w' := by
  obtain ⟨hb, ho, _⟩ := h
  obtain ⟨c0, c1, c2, f0, f1, f2⟩ := hb.three
  clear hb ho
  go_enter Tryd.func64, Tryd.ntmps64
  go_wp2
  go_ret
  exact ⟨rfl, rfl⟩
theorem found_any (B b room : Nat) (l : List Int) (lost : Bool) (v : Value) (w : World) (h : PileAt w B b room l lost v) :
    Calls Tryd.prog 112 #[.pointer (some ⟨b, 0, none⟩)] w fun e w' => e = .returned (.tuple #[]) ∧ PileAt w' B b room l false v ∧ Kept (own b v) w w' := by
  obtain ⟨hb, ho, hB⟩ := h
  have hne := own_ne ho hb (by decide)
  obtain ⟨c0, c1, c2, f0, f1, f2⟩ := hb.three
  have HB := Lib.hid hb
  have HO := Lib.hid ho
  have HN := Lib.hid hne
  clear hb ho hne
  go_enter Tryd.func112, Tryd.ntmps112
  go_wp2
  go_end0
  exact ⟨rfl, ⟨Blk.of_eq (HB.out.set 2 _) (by simp), HO.out.kept (grown_set w b 2 _) (.inr (Ne.symm HN.out)), hB⟩, (Kept.refl _ w).set (.inl (.inl rfl)) _⟩
theorem new_any (r : Int) (w : World) :
    Calls Tryd.prog 61 #[.int .i64 r] w fun e w' => e = .returned (.pointer (some ⟨w.heap.size, 0, none⟩)) ∧ PileAt w' w.heap.size w.heap.size (min (max r 1) 1000).toNat [] false (.slice none 0 0) ∧ Below w.heap.size w w' := by
  go_enter Tryd.func61, Tryd.ntmps61
  go_wp2
  all_goals
    go_ret
    refine ⟨rfl, ⟨?_, World.ownsRow_nil _ _ _ _, Nat.le_refl _⟩, (Below.refl _ _).alloc (Nat.le_refl _) _⟩
    first
      | (rw [show (((min (max r 1) 1000).toNat : Nat) : Int) = 1 by omega]; exact Blk.new w _ _)
      | (rw [show (((min (max r 1) 1000).toNat : Nat) : Int) = 1000 by omega]; exact Blk.new w _ _)
      | (rw [show (((min (max r 1) 1000).toNat : Nat) : Int) = r by omega]; exact Blk.new w _ _)
theorem take_none (B b room : Nat) (lost : Bool) (v : Value) (w : World) (h : PileAt w B b room [] lost v) :
    Calls Tryd.prog 129 #[.pointer (some ⟨b, 0, none⟩)] w fun e w' => e = .returned (.tuple #[.int .i64 0, .bool false]) ∧ w = w' := by
  have H := Lib.hid h
  clear h
  go_enter Tryd.func129, Tryd.ntmps129
  go_wp2_with fail
  refine (len_any _ _ _ _ _ _ _ H.out).mono ?_
  rintro e w1 ⟨rfl, rfl⟩
  dsimp only
  go_wp2_with fail
  go_ret2
  exact ⟨rfl, rfl⟩
theorem take_some (B b room : Nat) (l : List Int) (x : Int) (lost : Bool) (v : Value) (w : World) (h : PileAt w B b room (l ++ [x]) lost v) :
    Calls Tryd.prog 129 #[.pointer (some ⟨b, 0, none⟩)] w fun e w' => e = .returned (.tuple #[.int .i64 x, .bool true]) ∧ (∃ v', PileAt w' B b room l lost v' ∧ Grow v v' w.heap.size) ∧ Kept (own b v) w w' := by
  have H := Lib.hid h
  obtain ⟨hb, ho, hB⟩ := h
  have hne := own_ne ho hb (by decide)
  obtain ⟨g, cap, cur, rfl, hg, hh, hn, hm, hs, ht⟩ : ∃ g cap cur, v = .slice (some ⟨g, 0, none⟩) (l.length + 1) cap ∧ B ≤ g ∧ w.heap[g]? = some (.cells cur 2 (0, 0)) ∧ l.length + 1 ≤ cap ∧ cap ≤ maxLen ∧ cur.size = cap * 1 ∧ cur.toList.take ((l.length + 1) * 1) = (l ++ [x]).map (.int .i64) := by
    rcases ho.2 with ⟨_, h⟩ | ⟨g, cap, cur, h1, h2, h3, h4, h5, h6, h7⟩
    · simp at h
    · simp only [List.length_append, List.length_singleton] at h1 h4 h7
      exact ⟨g, cap, cur, h1, h2, h3, h4, h5, h6, h7⟩
  have hcell : w.cell? ⟨g, l.length, none⟩ = some (.int .i64 x) := by
    have := ho.cells (g := g) rfl l.length (.int .i64 x) (by simp)
    rwa [add_form, Nat.zero_add] at this
  obtain ⟨c0, c1, c2, f0, f1, f2⟩ := hb.three
  have hll : l.length ≤ 9223372036854775806 := by unfold maxLen at hm; omega
  have hl0 : (0 : Int) ≤ (l.length : Int) := by omega
  have hl1 : (l.length : Int) < (cap : Int) := by omega
  have HB := Lib.hid hb
  have HN := Lib.hid hne
  have HOWN := Lib.hid (show w.ownsRow B 2 1 (.slice (some ⟨g, 0, none⟩) l.length cap) l.length (l.map (.int .i64)) from
    ⟨by simp, .inr ⟨g, cap, cur, rfl, hg, hh, by omega, hm, hs, by
      have h2 : (cur.toList.take ((l.length + 1) * 1)).take (l.length * 1) = l.map (.int .i64) := by rw [ht]; simp
      rwa [List.take_take, Nat.min_eq_left (by omega)] at h2⟩⟩)
  clear hb hne ho hh ht
  go_enter Tryd.func129, Tryd.ntmps129
  go_wp2_with fail
  refine (len_any _ _ _ _ _ _ _ H.out).mono ?_
  rw [List.length_append, List.length_singleton]
  rintro e w1 ⟨rfl, rfl⟩
  dsimp only
  go_wp2_with fail
  go_ret2
  exact ⟨rfl, ⟨_, ⟨Blk.of_eq (HB.out.set 1 _) (by simp), HOWN.out.kept (grown_set w b 1 _) (.inr (Ne.symm HN.out)), hB⟩, fun k hk => .inl hk⟩, (Kept.refl _ w).set (.inl (.inl rfl)) _⟩

def Rel (w : World) (B b room : Nat) (l : List Int) (lost : Bool) (v : Value) (xs : List Int) (cnt i : Value) (wr : World) : Prop :=
  ∃ (k : Nat) (v' : Value), k ≤ xs.length ∧ i = .int .i64 k ∧ cnt = .int .i64 ((min k (room - l.length) : Nat) : Int) ∧
    PileAt wr B b room (l ++ xs.take (min k (room - l.length))) (lost || decide (room - l.length < k)) v' ∧ Grow v v' w.heap.size ∧ Kept (own b v) w wr

set_option maxHeartbeats 1000000 in
theorem put_any (B b room : Nat) (l : List Int) (lost : Bool) (v : Value) (A : Option Addr) (n c : Nat) (xs : List Int) (w : World) (h : PileAt w B b room l lost v) (hx : xs.length = n) (hl : l.length ≤ room) (hr : room ≤ 1000)
    (hk : n ≤ 1000000) (wx : ∀ z ∈ xs, (Lit.int .i64 z).wf = true) (hsrc : ∀ j z, xs[j]? = some z → ∃ sb off, A = some ⟨sb, off, none⟩ ∧ sb < w.heap.size ∧ ¬ own b v sb ∧ w.cell? ⟨sb, off + j, none⟩ = some (.int .i64 z)) :
    Calls Tryd.prog 108 #[.pointer (some ⟨b, 0, none⟩), .slice A n c] w fun e w' => e = .returned (.int .i64 ((min n (room - l.length) : Nat) : Int)) ∧
      (∃ v', PileAt w' B b room (l ++ xs.take (room - l.length)) (lost || decide (room - l.length < n)) v' ∧ Grow v v' w.heap.size) ∧ Kept (own b v) w w' := by
  obtain ⟨i0, hi0, hz0, hz1, hz2⟩ := info_parts info64
  have hx' : n = xs.length := hx.symm
  have HX := Lib.hid hx
  have HWX := Lib.hid wx
  have HS := Lib.hid hsrc
  have HI := Lib.hid (⟨hi0, hz0, hz1, hz2⟩ : Tryd.prog.info? 2 = some i0 ∧ i0.zero = some (.int .i64 0) ∧ i0.size = 1 ∧ i0.bytes = 8)
  have H := Lib.hid h
  clear hx hx' wx hsrc hi0 hz0 hz1 hz2 h
  have H0 := Lib.hid (show Rel w B b room l lost v xs (.int .i64 0) (.int .i64 0) w from ⟨0, v, Nat.zero_le _, rfl, by simp, by simpa using H.out, Grow.refl _ _, Kept.refl _ _⟩)
  go_enter Tryd.func108, Tryd.ntmps108
  go_wp2_with fail
  go_loopw [5, 12] (fun cnt i wr => Rel w B b room l lost v xs cnt i wr) (fun _ i _ => n - (intOf i).toNat)
  case atStart => exact H0.out
  case round =>
    clear H0
    obtain ⟨k, v', hkn, rfl, rfl, hP, hG, hK⟩ := hrel
    have hkn' : k ≤ n := by rw [← HX.out]; exact hkn
    by_cases hlt : k < n
    · have hkx : k < xs.length := by rw [HX.out]; exact hlt
      have hxk : xs[k]? = some xs[k] := List.getElem?_eq_getElem hkx
      obtain ⟨sb, off, rfl, hsb, hso, hsc⟩ := HS.out k _ hxk
      have hsc' : wr.cell? ⟨sb, off + k, none⟩ = some (.int .i64 xs[k]) := (World.cell?_of_block (w := w) (a := ⟨sb, off + k, none⟩) (hK.block sb hsb hso)).trans hsc
      obtain ⟨hb, ho, hB⟩ := hP
      have hne := own_ne ho hb (by decide)
      obtain ⟨pa, pc, rfl⟩ := slice_form ho
      obtain ⟨c0, c1, c2, f0, f1, f2⟩ := hb.three
      have hsbr : sb < wr.heap.size := Nat.lt_of_lt_of_le hsb hK.size
      have HXK := Lib.hid hxk
      by_cases hfr : k < room - l.length
      · have hlen : (l ++ xs.take (min k (room - l.length))).length = l.length + k := by rw [Nat.min_eq_left (by omega)]; simp; omega
        have hmin : min k (room - l.length) = k := Nat.min_eq_left (by omega)
        have hdec : decide (room - l.length < k) = false := by simp; omega
        rw [hlen] at c1 ho hb hne hG
        rw [hmin] at ho
        rw [hdec] at hb c2
        rw [hmin]
        have hroom : l.length + k < room := by omega
        have hge : decide ((room : Int) ≤ (l.length : Int) + (k : Int)) = false := by simp; omega
        have HB := Lib.hid hb
        have HO := Lib.hid ho
        have HN := Lib.hid hne
        have HG := Lib.hid hG
        have HK := Lib.hid hK
        clear hb ho hne hlen hmin hdec hG hK hxk hsc
        generalize hxv : xs[k] = xk at *
        clear hxv
        go_wp2_with fail
        go_quiet (fail)
        have hbl := HB.out.lt
        go_wp2_with (first
          | (at_builtin; go_loud (refine wpList_app _ rfl _ _ 142 rfl B 2 i0 (.int .i64 0) 1 8 Tryd.underlying142 HI.out.1 HI.out.2.1 HI.out.2.2.1 HI.out.2.2.2 rfl (by decide) _ _ _ rfl ((own_drewN HO.out nq).alloc _) (wr.heap.size + 1) _ 1 1 [.int .i64 xk] rfl (Blk.reads (Blk.new (wr.drewN nq) _ _) (by simp) rfl rfl (by decide)) ?c1 ?c2 ?c3 ?c4 ?_))
          | fail)
        case c1 => intro u hu; simp at hu; subst hu; rfl
        case c2 => unfold maxLen; omega
        case c3 => omega
        case c4 => simp; omega
        intro a' c' w2 ho2 hg2 hat2
        have hB2 : Blk w2 b _ _ := (hg2.block b (by simp; omega) HN.out).trans ((HB.out.drewN nq).alloc _)
        have hne2 := own_ne ho2 hB2 (by decide)
        have hK2 : Kept (own b v) w w2 := HK.out.step (((Kept.refl (fun j => (Value.slice pa (l.length + k) pc).ownBlock = some j) wr).drewN nq).alloc _ |>.step (Kept.of_grown hg2) (fun _ _ e => e.symm)) (fun j hj e => by
          rcases HG.out j e with e' | e'
          · exact .inr e'
          · omega)
        have hG2 : Grow v (.slice a' (l.length + k + 1) c') w.heap.size := fun j hj => by
          rcases hat2 with e | e
          · rw [e] at hj; exact HG.out j hj
          · rw [e] at hj
            right
            have := HK.out.size
            simp at hj
            omega
        have HB2 := Lib.hid hB2
        have HN2 := Lib.hid hne2
        have HK2 := Lib.hid hK2
        have HG2 := Lib.hid hG2
        have HO2 := Lib.hid ho2
        clear hB2 hne2 hK2 hG2 ho2 hg2 hat2 c0 c1 c2 f0 f1 f2 hsc'
        obtain ⟨c0, c1, c2, f0, f1, f2⟩ := HB2.out.three
        go_wp2_with fail
        have hmin : min (k + 1) (room - l.length) = k + 1 := Nat.min_eq_left (by omega)
        have hdec : decide (room - l.length < k + 1) = false := by simp; omega
        have hP : PileAt (w2.setCell ⟨b, 1, none⟩ (.slice a' (l.length + k + 1) c')) B b room (l ++ xs.take (k + 1)) (lost || decide (room - l.length < k + 1)) (.slice a' (l.length + k + 1) c') := by
          have hlen : (l ++ xs.take (k + 1)).length = l.length + k + 1 := by simp; omega
          refine ⟨?_, ?_, hB⟩
          · rw [hdec]
            exact Blk.of_eq (HB2.out.set 1 _) (by simp)
          · rw [hlen, take_snoc HXK.out]
            have := HO2.out.kept (grown_set w2 b 1 (.slice a' (l.length + k + 1) c')) (.inr (Ne.symm HN2.out))
            simpa using this
        refine ⟨⟨k + 1, _, by omega, by go_num, by rw [hmin]; go_num, by rw [hmin]; exact hP, HG2.out, HK2.out.set (.inl (.inl rfl)) _⟩, by simp [intOf]; omega⟩
      · have hfr' : room - l.length ≤ k := by omega
        have hmin : min k (room - l.length) = room - l.length := Nat.min_eq_right hfr'
        have hmin' : min (k + 1) (room - l.length) = room - l.length := Nat.min_eq_right (by omega)
        have hlen : (l ++ xs.take (min k (room - l.length))).length = room := by rw [hmin]; simp; omega
        have hdec : decide (room - l.length < k + 1) = true := by simp; omega
        have hge : decide ((room : Int) ≤ (room : Int)) = true := by simp
        rw [hlen] at c1 hb hne
        have HB := Lib.hid hb
        have HO := Lib.hid ho
        have HN := Lib.hid hne
        have HG := Lib.hid hG
        have HK := Lib.hid hK
        have HL := Lib.hid hlen
        have HM := Lib.hid hmin
        have HM' := Lib.hid hmin'
        have HD := Lib.hid hdec
        clear hb ho hne hlen hmin hmin' hdec hG hK hxk hsc hge
        generalize hxv : xs[k] = xk at *
        clear hxv
        go_wp2_with fail
        go_quiet (fail)
        go_wp2_with fail
        have hset : Blk ((wr.drewN nq).setCell ⟨b, 2, none⟩ (.bool true)) b #[.int .i64 room, .slice pa room pc, .bool true] 144 := Blk.of_eq ((HB.out.drewN nq).set 2 _) (by simp)
        refine ⟨⟨k + 1, _, by omega, by go_num, by rw [HM'.out, HM.out], ?_, HG.out, (HK.out.drewN nq).set (.inl (.inl rfl)) _⟩, by simp [intOf]; omega⟩
        rw [HM'.out, HD.out, Bool.or_true]
        refine ⟨by rw [HL.out]; exact hset, ?_, hB⟩
        have h2 := (own_drewN HO.out nq).kept (grown_set (wr.drewN nq) b 2 (.bool true)) (.inr (by rw [HL.out]; exact Ne.symm HN.out))
        rw [HM.out] at h2 ⊢
        exact h2
    · have hkk : k = n := by omega
      subst hkk
      have HP := Lib.hid hP
      have HG := Lib.hid hG
      have HK := Lib.hid hK
      have HX2 := HX
      clear hP hG hK HX
      go_wp2_with fail
      go_ret
      refine ⟨rfl, ⟨v', ?_, HG.out⟩, HK.out⟩
      have h := HP.out
      have ht : xs.take (min k (room - l.length)) = xs.take (room - l.length) := by
        rcases Nat.le_total k (room - l.length) with h1 | h1
        · rw [Nat.min_eq_left h1, List.take_of_length_le (by have := HX2.out; omega), List.take_of_length_le (by have := HX2.out; omega)]
        · rw [Nat.min_eq_right h1]
      rw [ht] at h
      exact h
end Go.Proofs.YtoajbjeiplolnaaDoorR.Pil
