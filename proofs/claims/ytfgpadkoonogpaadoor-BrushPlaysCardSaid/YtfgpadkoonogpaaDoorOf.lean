/- Package heap: Objects, with what stands in the fields. -/
import Derived.Test.YtfgpadkoonogpaaDoorHpy
namespace Go.Proofs.YtfgpadkoonogpaaDoor.Hp
open Go.RowKit Pg Ar Tm
set_option linter.unusedSimpArgs false
set_option linter.unusedVariables false

theorem own_base_le {w : World} {B B' n size : Nat} {v : Value} {e : TypeId} {xs : List Value} (h : w.ownsRow B e size v n xs) (hb : B' ≤ B) : w.ownsRow B' e size v n xs := by
  refine ⟨h.1, ?_⟩
  rcases h.2 with h1 | ⟨g, cap, cur, h1, h2, h3⟩
  · exact .inl h1
  · exact .inr ⟨g, cap, cur, h1, Nat.le_trans hb h2, h3⟩
theorem own_apart {w : World} {B B' n n' size size' : Nat} {v v' : Value} {e e' : TypeId} {xs xs' : List Value} (h : w.ownsRow B e size v n xs) (h' : w.ownsRow B' e' size' v' n' xs') (hne : e ≠ e') {k : Nat} (hk : v.ownBlock = some k) (hk' : v'.ownBlock = some k) : False := by
  rcases h.2 with ⟨rfl, _⟩ | ⟨g, cap, cur, rfl, _, h1, _⟩
  · cases hk
  · rcases h'.2 with ⟨rfl, _⟩ | ⟨g', cap', cur', rfl, _, h2, _⟩
    · cases hk'
    · obtain rfl : g = k := Option.some.inj hk
      obtain rfl : g' = g := Option.some.inj hk'
      rw [h1] at h2
      injection h2 with h2
      injection h2 with _ h2
      exact hne h2
/-- The words of the fields of the object that begins there. -/
def fv (ls : List (List Int)) (σ : HS) (a : Int) : List Int :=
  match hat σ a with
  | none => []
  | some (k, s) => flds ls σ a k s
/-- An object's fields, as a list has them. -/
def OfR (z : Nat) (w : World) (ls : List (List Int)) (σ : HS) (o : OC) : Prop := w.ownsRow z 3 1 (.slice o.2.2.2.1.1 o.2.2.2.1.2.1 o.2.2.2.1.2.2) o.2.2.2.1.2.1 ((fv ls σ o.1).map (.int .i64))
def ObjsF (ls : List (List Int)) (σ : HS) (w : World) (e : Ending) (w' : World) : Prop :=
  ∃ (os : List OC) (a : Option Addr) (c : Nat), e = .returned (.slice a os.length c) ∧ ObsIs ls σ (allOf σ.ps σ.ps.length) os ∧ w'.ownsRow w.heap.size 68 5 (.slice a os.length c) os.length (os.flatMap ocs) ∧ Below w.heap.size w w' ∧ ∀ o ∈ os, OfR w.heap.size w' ls σ o
set_option maxHeartbeats 1000000 in
theorem objectsF_any (B : HB) (ls : List (List Int)) (σ : HS) (w : World) (h : HpAt w B ls σ) (hT : Tab w) :
    Calls Tryd.prog 43 #[.pointer (some ⟨B.b, 0, none⟩)] w (ObjsF ls σ w) := by
  obtain ⟨i0, hi0, hz0, hz1, hz2⟩ := info_parts infoOb
  have HI := Lib.hid (⟨hi0, hz0, hz1, hz2⟩ : Tryd.prog.info? 68 = some i0 ∧ i0.zero = some (.agg #[.int .i64 0, .int .i64 0, .int .i64 0, .slice none 0 0, .bool false]) ∧ i0.size = 5 ∧ i0.bytes = 56)
  have HT := Lib.hid hT
  have H := Lib.hid h
  have HA := Lib.hid (Ar.all_any _ _ _ _ _ w h.ar hT)
  have HIS := Lib.hid (allOf_is h σ.ps.length)
  have hlen := allOf_len σ.ps σ.ps.length
  have hn := h.ar.hn
  have hl2 : (allOf σ.ps σ.ps.length).length ≤ 2048 := by omega
  obtain ⟨e0, e1, e2, e3, e4⟩ := h.five
  unfold ObjsF
  generalize allOf σ.ps σ.ps.length = L at *
  clear hi0 hz0 hz1 hz2 hT h hlen hn
  go_enter Tryd.func43, Tryd.ntmps43
  go_wp2_with fail
  refine (none_any B ls σ _ H.out).mono ?_
  rintro e w1 ⟨rfl, rfl⟩
  dsimp only
  go_wp2_with fail
  refine HA.out.mono ?_
  rintro e w1 ⟨aL, cL, rfl, hoL, hbL⟩
  have HOL := Lib.hid hoL
  have HB1 := Lib.hid hbL
  clear hoL hbL e0 e1 e2 e3 e4
  dsimp only
  go_wp2_with fail
  go_loopw [3, 16] (fun v i wr => ∃ (m : Nat) (a' : Option Addr) (c' : Nat) (G : List OC), m ≤ L.length ∧ i = .int .i64 (m : Int) ∧ v = .slice a' G.length c' ∧ ObsIs ls σ (L.take m) G ∧
    wr.ownsRow w.heap.size 68 5 (.slice a' G.length c') G.length (G.flatMap ocs) ∧ Below w.heap.size w wr ∧
    wr.ownsRow w.heap.size 3 1 (.slice aL L.length cL) L.length (ints' L) ∧ (∀ k, (Value.slice a' G.length c').ownBlock = some k → ∀ g, (Value.slice aL L.length cL).ownBlock = some g → k ≠ g) ∧ ∀ o ∈ G, OfR w.heap.size wr ls σ o) (fun _ i _ => L.length - (intOf i).toNat)
  case atStart => exact ⟨0, none, 0, [], Nat.zero_le _, rfl, rfl, trivial, World.ownsRow_nil _ _ _ _, HB1.out, HOL.out, (fun k hk => by cases hk), fun o ho => by cases ho⟩
  case round =>
    obtain ⟨m, a', c', G, hm, rfl, rfl, hG, ho2, hb2, hol2, hv2, hof⟩ := hrel
    have HOF2 := Lib.hid hof
    have HO2 := Lib.hid ho2
    have HB2 := Lib.hid hb2
    have HOL2 := Lib.hid hol2
    have HV2 := Lib.hid hv2
    have HG := Lib.hid hG
    have hGl : G.length ≤ m := by rw [obs_len hG, List.length_take]; exact Nat.min_le_left _ _
    clear ho2 hb2 hol2 hv2 hG hof
    by_cases hlm : m < L.length
    · obtain ⟨x, hx⟩ : ∃ x, L[m]? = some x := ⟨L[m], List.getElem?_eq_getElem hlm⟩
      obtain ⟨g, rfl⟩ : ∃ g, aL = some ⟨g, 0, none⟩ := by
        rcases HOL2.out.2 with ⟨_, h⟩ | ⟨g, cap, _, h, _⟩
        · exfalso; omega
        · injection h with h3; exact ⟨g, h3⟩
      have hcell := HOL2.out.cells (g := g) rfl m (.int .i64 x) (by simp [ints', hx])
      rw [add_form] at hcell
      have hcell : wr.cell? ⟨g, m, none⟩ = some (.int .i64 x) := by simpa using hcell
      have hl3 : (m : Int) < (L.length : Int) := by omega
      obtain ⟨kx, sx, px, _, _, _, hhx, hxa, hxb⟩ := HIS.out x (List.mem_of_getElem? hx)
      have HHX := Lib.hid hhx
      have HX := Lib.hid (take_one hx)
      have H2 := Lib.hid (H.out.call HB2.out)
      clear hx hhx
      go_wp2_with fail
      refine (object_any B ls σ x _ H2.out (by omega)).mono ?_
      rintro e w3 (⟨h1, _⟩ | ⟨k', s', t, A, c, h1, h2, rfl, ho3, hb3⟩)
      · rw [HHX.out] at h1; cases h1
      have HOB := Lib.hid (show ObIs ls σ x (x, t.1, t.2.1, (A, nfl ls σ k' s', c), (t.2.2 != 0)) from ⟨rfl, k', s', t, h1, h2, rfl, rfl, rfl, rfl⟩)
      have HX1 := Lib.hid (show ObsIs ls σ (L.take (m + 1)) (G ++ [(x, t.1, t.2.1, (A, nfl ls σ k' s', c), (t.2.2 != 0))]) by rw [HX.out]; exact obs_add HOB.out HG.out)
      have ho3 : w3.ownsRow wr.heap.size 3 1 (.slice A (nfl ls σ k' s') c) (nfl ls σ k' s') ((fv ls σ x).map (.int .i64)) := by
        unfold fv
        rw [h1]
        exact ho3
      have HOF3 := Lib.hid (show ∀ o ∈ G ++ [((x, t.1, t.2.1, (A, nfl ls σ k' s', c), (t.2.2 != 0)) : OC)], OfR w.heap.size w3 ls σ o from fun o ho => by
        rcases List.mem_append.1 ho with ho | ho
        · exact own_block (HOF2.out o ho) fun k hk => hb3.block k ((HOF2.out o ho).lt k hk).2
        · rw [List.mem_singleton.1 ho]
          exact own_base_le ho3 HB2.out.size)
      clear h1 h2 ho3
      generalize nfl ls σ k' s' = nf at *
      generalize (t.2.2 != 0) = mk at *
      generalize t.1 = sh at *
      generalize t.2.1 = se at *
      have HB3 := Lib.hid (fresh_alloc (fresh_call HB2.out hb3) (.cells #[.int .i64 x, .int .i64 sh, .int .i64 se, .slice A nf c, .bool mk] 68))
      have HO3 := Lib.hid ((own_block HO2.out fun k hk => hb3.block k (HO2.out.lt k hk).2).alloc (.cells #[.int .i64 x, .int .i64 sh, .int .i64 se, .slice A nf c, .bool mk] 68))
      have HOL3 := Lib.hid ((own_block HOL2.out fun k hk => hb3.block k (HOL2.out.lt k hk).2).alloc (.cells #[.int .i64 x, .int .i64 sh, .int .i64 se, .slice A nf c, .bool mk] 68))
      have hnew := Blk.new w3 #[.int .i64 x, .int .i64 sh, .int .i64 se, .slice A nf c, .bool mk] 68
      have q0 := hnew.cell 0
      have q1 := hnew.cell 1
      have q2 := hnew.cell 2
      have q3 := hnew.cell 3
      have q4 := hnew.cell 4
      have hz3 := hb3.size
      clear hb3 hcell
      dsimp only
      go_wp2_with (first
        | (at_builtin; go_loud (refine wpList_app _ rfl _ _ 88 rfl w.heap.size 68 i0 (.agg #[.int .i64 0, .int .i64 0, .int .i64 0, .slice none 0 0, .bool false]) 5 56 Tryd.underlying88 HI.out.1 HI.out.2.1 HI.out.2.2.1 HI.out.2.2.2 rfl (by decide) _ _ _ rfl (HO3.out.alloc _) (w3.heap.size + 2) _ 1 1 [.int .i64 x, .int .i64 sh, .int .i64 se, .slice A nf c, .bool mk] rfl (blk_readsN (n := 1) (size := 5) (blk_new (by rw [World.size_alloc]) _ _) (by omega) rfl rfl (by decide)) ?c1 ?c2 ?c3 ?c4 ?_))
        | fail)
      case c1 => intro u hu; simp at hu; rcases hu with rfl | rfl | rfl | rfl | rfl <;> rfl
      case c2 => unfold maxLen; omega
      case c3 => omega
      case c4 => have := HB3.out.size; (try simp only [World.size_alloc] at *); omega
      intro a4 c4 w4 ho4 hg4 hat4
      obtain ⟨o, ho⟩ : ∃ o : OC, ((x, sh, se, (A, nf, c), mk) : OC) = o := ⟨_, rfl⟩
      have hco : [Value.int .i64 x, .int .i64 sh, .int .i64 se, .slice A nf c, .bool mk] = ocs o := by rw [← ho]; rfl
      rw [hco] at ho4
      rw [ho] at HX1 HOF3
      have HOF4 := Lib.hid (show ∀ o' ∈ G ++ [o], OfR w.heap.size w4 ls σ o' from fun o' ho' => by
        have h5 := (HOF3.out o' ho').alloc (.cells #[.int .i64 x, .int .i64 sh, .int .i64 se, .slice A nf c, .bool mk] 68)
        have h6 := h5.alloc (.cells #[.int .i64 x, .int .i64 sh, .int .i64 se, .slice A nf c, .bool mk] 68)
        exact own_block h6 fun k hk => hg4.block k (h6.lt k hk).2 fun e => own_apart h6 (HO3.out.alloc _) (by decide) hk e.symm)
      have hgl1 : (G ++ [o]).length = G.length + 1 := by simp
      have HO4 := Lib.hid (show w4.ownsRow w.heap.size 68 5 (.slice a4 (G ++ [o]).length c4) (G ++ [o]).length ((G ++ [o]).flatMap ocs) from by
        rw [obs_snoc, hgl1]; exact ho4)
      have HB4 := Lib.hid (show Below w.heap.size w w4 from (fresh_alloc HB3.out _).grown hg4 (by have := HB3.out.size; simp at this ⊢; omega) (fun k hk => (HO3.out.lt k hk).1))
      have HOL4 := Lib.hid (own_block (HOL3.out.alloc (.cells #[.int .i64 x, .int .i64 sh, .int .i64 se, .slice A nf c, .bool mk] 68)) fun k hk => hg4.block k (by have := (HOL3.out.lt k hk).2; simp at this ⊢; omega) (fun e => HV2.out k e.symm k hk rfl))
      have HV4 := Lib.hid (show ∀ k, (Value.slice a4 (G ++ [o]).length c4).ownBlock = some k → ∀ g', (Value.slice (some ⟨g, 0, none⟩) L.length cL).ownBlock = some g' → k ≠ g' from fun k hk g' hg' => by
        rw [hgl1] at hk
        rcases hat4 with e | e
        · exact HV2.out k (e.symm.trans hk) g' hg'
        · have h1 := (HOL3.out.lt g' hg').2
          have h2 : k = _ := Option.some.inj (hk.symm.trans e)
          simp at h1 h2
          have h3 := (HOL2.out.lt g' hg').2
          omega)
      clear ho4 hg4 hat4 hco q0 q1 q2 q3 q4 hnew
      go_wp2_with fail
      go_roundw
      case rel => exact ⟨m + 1, a4, c4, G ++ [o], by omega, by go_num, by rw [hgl1], HX1.out, HO4.out, HB4.out, HOL4.out, HV4.out, HOF4.out⟩
      case measure => simp [intOf]; omega
    · obtain rfl : m = L.length := by omega
      have HEnd := Lib.hid (show ObsIs ls σ L G by have := HG.out; rw [List.take_length] at this; exact this)
      go_wp2_with fail
      go_ret
      exact ⟨G, a', c', rfl, HEnd.out, HO2.out, HB2.out, HOF2.out⟩
end Go.Proofs.YtfgpadkoonogpaaDoor.Hp
