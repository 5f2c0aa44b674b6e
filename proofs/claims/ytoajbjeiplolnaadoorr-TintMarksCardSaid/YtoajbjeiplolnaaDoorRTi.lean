/- Package tint: what a heap and a pile are together in memory; the contracts of Finish, Shade. -/
import Derived.Test.YtoajbjeiplolnaaDoorRDt
import Derived.Test.YtoajbjeiplolnaaDoorRPts
import Derived.Test.YtoajbjeiplolnaaDoorRPile
namespace Go.Proofs.YtoajbjeiplolnaaDoorR.Tn
open Go.RowKit Ar Hp
set_option linter.unusedSimpArgs false
set_option linter.unusedVariables false

/-- The colors; the pile; whether one was lost. -/
structure TS where
  c : Int → Int
  l : List Int
  lost : Bool
def upd (c : Int → Int) (a x : Int) : Int → Int := fun b => if b = a then x else c b
/-- The object that a word is in. -/
def fo (σ : HS) (v : Int) : Option Int := if (slot σ.ps v).isSome = true then some (fbase σ.ps v) else none
def putT (room : Nat) (T : TS) (xs : List Int) : TS := ⟨T.c, T.l ++ xs.take (room - T.l.length), T.lost || decide (room - T.l.length < xs.length)⟩
def sh1 (σ : HS) (room : Nat) (p : TS × Nat) (v : Int) : TS × Nat :=
  match fo σ v with
  | none => p
  | some a => if p.1.c a = 0 then (putT room ⟨upd p.1.c a 1, p.1.l, p.1.lost⟩ [a], p.2 + 1) else p
def shA (σ : HS) (room : Nat) (vs : List Int) (p : TS × Nat) : TS × Nat := vs.foldl (sh1 σ room) p
theorem shA_snoc (σ : HS) (room : Nat) (vs : List Int) (v : Int) (p : TS × Nat) : shA σ room (vs ++ [v]) p = sh1 σ room (shA σ room vs p) v := by
  unfold shA
  rw [List.foldl_append]
  rfl
theorem sh1_none {σ : HS} {room : Nat} {p : TS × Nat} {v : Int} (h : fo σ v = none) : sh1 σ room p v = p := by
  unfold sh1
  rw [h]
theorem sh1_old {σ : HS} {room : Nat} {p : TS × Nat} {v a : Int} (h : fo σ v = some a) (hc : p.1.c a ≠ 0) : sh1 σ room p v = p := by
  unfold sh1
  rw [h]
  dsimp only
  rw [if_neg hc]
theorem sh1_new {σ : HS} {room : Nat} {p : TS × Nat} {v a : Int} (h : fo σ v = some a) (hc : p.1.c a = 0) : sh1 σ room p v = (putT room ⟨upd p.1.c a 1, p.1.l, p.1.lost⟩ [a], p.2 + 1) := by
  unfold sh1
  rw [h]
  dsimp only
  rw [if_pos hc]
theorem sh1_cnt (σ : HS) (room : Nat) (p : TS × Nat) (v : Int) : (sh1 σ room p v).2 ≤ p.2 + 1 := by
  unfold sh1
  split
  · omega
  · split
    · exact Nat.le_refl _
    · omega
theorem shA_cnt (σ : HS) (room : Nat) : ∀ (vs : List Int) (p : TS × Nat), (shA σ room vs p).2 ≤ p.2 + vs.length
  | [], p => Nat.le_refl _
  | v :: r, p => by
    have h1 := shA_cnt σ room r (sh1 σ room p v)
    have h2 := sh1_cnt σ room p v
    show (shA σ room r (sh1 σ room p v)).2 ≤ _
    rw [List.length_cons]
    omega
/-- The one state came of the other by colors alone. -/
def sh2 (t : Tm.Thing) : Int × Int := (t.1, t.2.1)
structure Evo (σ σ' : HS) : Prop where
  ps : σ'.ps = σ.ps
  ws : σ'.ws = σ.ws
  sr : σ'.sr = σ.sr
  gv : σ'.gv = σ.gv
  th : ∀ k s, (σ'.M k s).map sh2 = (σ.M k s).map sh2
namespace Evo
variable {σ σ' σ'' : HS}
theorem refl (σ : HS) : Evo σ σ := ⟨rfl, rfl, rfl, rfl, fun _ _ => rfl⟩
theorem trans (h : Evo σ σ') (g : Evo σ' σ'') : Evo σ σ'' := ⟨g.ps.trans h.ps, g.ws.trans h.ws, g.sr.trans h.sr, g.gv.trans h.gv, fun k s => (g.th k s).trans (h.th k s)⟩
theorem hat_ (h : Evo σ σ') (a : Int) : hat σ' a = hat σ a := by unfold hat; rw [h.ps]
theorem foot (h : Evo σ σ') {B : HB} {i : Nat} (hi : HFoot B σ' i) : HFoot B σ i := foot_ps h.ps hi
theorem foot' (h : Evo σ σ') {B : HB} {i : Nat} (hi : HFoot B σ i) : HFoot B σ' i := foot_ps h.ps.symm hi
theorem fo_ (h : Evo σ σ') (v : Int) : fo σ' v = fo σ v := by unfold fo; rw [h.ps]
theorem shape (h : Evo σ σ') {k s : Nat} {t' : Tm.Thing} (ht : σ'.M k s = some t') : ∃ t, σ.M k s = some t ∧ t.1 = t'.1 ∧ t.2.1 = t'.2.1 := by
  have h1 := h.th k s
  rw [ht] at h1
  rcases hm : σ.M k s with _ | t
  · rw [hm] at h1; cases h1
  · rw [hm] at h1
    have h1 : some (sh2 t') = some (sh2 t) := h1
    have h1 := Option.some.inj h1
    unfold sh2 at h1
    injection h1 with h1 h2
    exact ⟨t, rfl, h1.symm, h2.symm⟩
theorem paint (σ : HS) {k s : Nat} {t : Tm.Thing} (x : Int) (ht : σ.M k s = some t) : Evo σ { σ with M := Tm.put σ.M k s (some (t.1, t.2.1, x)) } :=
  ⟨rfl, rfl, rfl, rfl, fun i j => by
    show (Tm.put σ.M k s (some (t.1, t.2.1, x)) i j).map sh2 = _
    unfold Tm.put
    split
    · rename_i e
      rw [e.1, e.2, ht]
      rfl
    · rfl⟩
end Evo
theorem col_paint {w : World} {B : HB} {ls : List (List Int)} {σ : HS} (h : HpAt w B ls σ) {a : Int} {k s : Nat} {t : Tm.Thing} (hh : hat σ a = some (k, s)) (x b : Int) : col { σ with M := Tm.put σ.M k s (some (t.1, t.2.1, x)) } b = upd (col σ) a x b := by
  unfold upd
  by_cases e : b = a
  · subst e
    rw [if_pos rfl]
    unfold col
    show (match hat σ b with | none => 0 | some (k', s') => ((Tm.put σ.M k s (some (t.1, t.2.1, x)) k' s').getD (0, 0, 0)).2.2) = x
    rw [hh]
    dsimp only
    unfold Tm.put
    rw [if_pos ⟨rfl, rfl⟩]
    rfl
  · rw [if_neg e]
    unfold col
    show (match hat σ b with | none => 0 | some (k', s') => ((Tm.put σ.M k s (some (t.1, t.2.1, x)) k' s').getD (0, 0, 0)).2.2) = _
    rcases hb : hat σ b with _ | ⟨k', s'⟩
    · rfl
    · dsimp only
      unfold Tm.put
      rw [if_neg (fun e2 => e (hat_inj h (by rw [hb, e2.1, e2.2]) hh))]
theorem fo_hat {w : World} {B : HB} {ls : List (List Int)} {σ : HS} (h : HpAt w B ls σ) {v a : Int} (e : fo σ v = some a) : (slot σ.ps v).isSome = true ∧ fbase σ.ps v = a ∧ ∃ k s t, hat σ a = some (k, s) ∧ σ.M k s = some t := by
  unfold fo at e
  split at e
  · rename_i hs
    have e := Option.some.inj e
    refine ⟨hs, e, ?_⟩
    rcases hsl : slot σ.ps v with _ | ⟨k, p, s⟩
    · rw [hsl] at hs; cases hs
    · obtain ⟨h1, h2, h3, h4, h5, h6, h7, h8, h9⟩ := slot_some h.ar hsl
      obtain ⟨z, hz⟩ : ∃ z : Nat, Cls.csz p.c = (z : Int) := ⟨(Cls.csz p.c).toNat, by have := (Cls.csz_bd p.c).1; omega⟩
      have hb := hat_at h h1 h3 h2 hz
      have hb2 := (slot_at h.ar h1 h3 h2 hz).1
      unfold fbase at e
      rw [hsl] at e
      dsimp only at e
      rw [hb2] at e
      rw [e] at hb
      obtain ⟨t, ht⟩ := Option.isSome_iff_exists.1 ((h.inv k s).2 ⟨p, h1, h2⟩)
      exact ⟨k, s, t, hb, ht⟩
  · cases e
theorem fo_none {σ : HS} {v : Int} (e : fo σ v = none) : (slot σ.ps v).isSome = false := by
  unfold fo at e
  split at e
  · cases e
  · rename_i h
    simpa using h
theorem finish_yes (B : HB) (ls : List (List Int)) (σ : HS) (addr : Int) (k s : Nat) (t : Tm.Thing) (w : World) (h : HpAt w B ls σ) (ha : addr ≤ 9223372036854775807) (hh : hat σ addr = some (k, s)) (ht : σ.M k s = some t) (hc : t.2.2 = 1) :
    Calls Tryd.prog 111 #[.pointer (some ⟨B.b, 0, none⟩), .int .i64 addr] w fun e w' => e = .returned (.bool true) ∧ HpAt w' B ls { σ with M := Tm.put σ.M k s (some (t.1, t.2.1, 2)) } ∧ Kept (fun i => i = B.bm) w w' := by
  have H := Lib.hid (turn_yes B ls σ addr 1 2 k s t w h ha hh ht hc)
  clear h hh ht hc
  go_enter Tryd.func111, Tryd.ntmps111
  go_wp2_with fail
  refine H.out.mono ?_
  rintro e w1 ⟨rfl, h1, hb⟩
  have H1 := Lib.hid h1
  have HB1 := Lib.hid hb
  clear h1 hb
  dsimp only
  go_wp2_with fail
  go_ret
  exact ⟨rfl, H1.out, HB1.out⟩

/-- Where it all lies: a heap, a pile, the shapes that are handed in. -/
structure TB where
  B : HB
  ls : List (List Int)
  zp : Nat
  bp : Nat
  room : Nat
  zs : Nat
  sa : Option Addr
  sc : Nat
/-- What may turn. -/
def TB.foot (E : TB) (σ : HS) (v : Value) (i : Nat) : Prop := HFoot E.B σ i ∨ Pil.own E.bp v i
/-- A heap and a pile, in a state that came of σ0 by colors alone. -/
structure TR (w wr : World) (E : TB) (σ0 : HS) (T : TS) (σ : HS) (v : Value) : Prop where
  hw : HW w wr E.B E.ls σ
  evo : Evo σ0 σ
  col : ∀ a, col σ a = T.c a
  pl : Pil.PileAt wr E.zp E.bp E.room T.l T.lost v
  far : ∀ i, Pil.own E.bp v i → ¬ HFoot E.B σ0 i
  hz : E.B.z ≤ E.zp
  len : T.l.length ≤ E.room
  rm : E.room ≤ 1000
  wf : ∀ a ∈ T.l, 1048576 ≤ a ∧ a ≤ 1050624
  sh : Shp.RS wr E.zs E.sa E.ls.length E.sc E.ls
  zs : E.zs ≤ E.B.z
namespace TR
variable {w wr w' : World} {E : TB} {σ0 σ : HS} {T : TS} {v v' : Value}
theorem call (h : TR w wr E σ0 T σ v) (hb : Below wr.heap.size wr w') : TR w w' E σ0 T σ v :=
  { h with hw := h.hw.call hb, pl := h.pl.below hb, sh := rs_same h.sh fun i hi => hb.block i (by have := h.hw.hp.z_lt; have := h.zs; omega) }
theorem foot_lt (h : TR w wr E σ0 T σ v) {i : Nat} (hi : E.foot σ0 v i) : i < wr.heap.size := by
  rcases hi with hi | hi
  · exact h.hw.hp.lt (h.evo.foot' hi)
  · exact h.pl.lt hi
theorem foot_z (h : TR w wr E σ0 T σ v) {i : Nat} (hi : E.foot σ0 v i) : E.B.z ≤ i := by
  rcases hi with hi | hi
  · exact h.hw.hp.new i (h.evo.foot' hi)
  · exact Nat.le_trans h.hz (h.pl.base hi)
theorem shs {S : Nat → Prop} (h : TR w wr E σ0 T σ v) (hk : Kept S wr w') (hS : ∀ i, S i → E.B.z ≤ i) : Shp.RS w' E.zs E.sa E.ls.length E.sc E.ls :=
  rs_same h.sh fun i hi => hk.block i (by have := h.hw.hp.z_lt; have := h.zs; omega) fun e => by have := hS i e; have := h.zs; omega
/-- The pile has turned. -/
theorem piled (h : TR w wr E σ0 T σ v) (h0 : 0 < w.heap.size) {l : List Int} {lost : Bool} (hp : Pil.PileAt w' E.zp E.bp E.room l lost v') (hg : Pil.Grow v v' wr.heap.size) (hk : Kept (Pil.own E.bp v) wr w') (hl : l.length ≤ E.room) (hw : ∀ a ∈ l, 1048576 ≤ a ∧ a ≤ 1050624) : TR w w' E σ0 ⟨T.c, l, lost⟩ σ v' :=
  { h with
    hw := h.hw.aside h0 hk fun i hi => ⟨fun e => h.far i hi (h.evo.foot e), Nat.le_trans h.hz (h.pl.base hi)⟩
    pl := hp
    far := fun i hi e => by
      rcases hi with rfl | hi
      · exact h.far _ (.inl rfl) e
      · rcases hg i hi with h1 | h1
        · exact h.far i (.inr h1) e
        · have := h.hw.hp.lt (h.evo.foot' e); omega
    len := hl
    wf := hw
    sh := h.shs hk fun i hi => Nat.le_trans h.hz (h.pl.base hi) }
/-- An object has turned its color. -/
theorem painted (h : TR w wr E σ0 T σ v) (h0 : 0 < w.heap.size) {a x : Int} {k s : Nat} {t : Tm.Thing} (hh : hat σ a = some (k, s)) (ht : σ.M k s = some t) (hp : HpAt w' E.B E.ls { σ with M := Tm.put σ.M k s (some (t.1, t.2.1, x)) }) (hk : Kept (fun i => i = E.B.bm) wr w') :
    TR w w' E σ0 ⟨upd T.c a x, T.l, T.lost⟩ { σ with M := Tm.put σ.M k s (some (t.1, t.2.1, x)) } v :=
  { h with
    hw := h.hw.step h0 hp hk fun i hi => hi ▸ foot_bm E.B σ
    evo := h.evo.trans (Evo.paint σ x ht)
    col := fun b => by
      rw [col_paint h.hw.hp hh]
      show upd (Hp.col σ) a x b = upd T.c a x b
      unfold upd
      rw [h.col]
    pl := h.pl.keep fun i hi => hk.block i (h.pl.lt hi) (fun e => h.far i hi (e ▸ foot_bm E.B σ0))
    sh := h.shs hk fun i hi => h.hw.hp.new i (hi ▸ foot_bm E.B σ) }
end TR
/-- Behind a call that took the state on. -/
def Went (w : World) (E : TB) (σ0 : HS) (T' : TS) (v : Value) (r : Value) (wr : World) (e : Ending) (w' : World) : Prop :=
  ∃ (σ : HS) (v' : Value), e = .returned r ∧ TR w w' E σ0 T' σ v' ∧ Kept (E.foot σ0 v) wr w' ∧ Pil.Grow v v' wr.heap.size
theorem foot_grow {E : TB} {σ0 : HS} {v v' : Value} {n i : Nat} (hg : Pil.Grow v v' n) (hi : i < n) (h : E.foot σ0 v' i) : E.foot σ0 v i := by
  rcases h with h | rfl | h
  · exact .inl h
  · exact .inr (.inl rfl)
  · rcases hg i h with h | h
    · exact .inr (.inr h)
    · omega
theorem grow_trans {v v' v'' : Value} {n m : Nat} (h : Pil.Grow v v' n) (g : Pil.Grow v' v'' m) (hnm : n ≤ m) : Pil.Grow v v'' n := fun k hk => by
  rcases g k hk with h1 | h1
  · exact h k h1
  · exact .inr (by omega)
theorem putT_len {room : Nat} {T : TS} (h : T.l.length ≤ room) (xs : List Int) : (putT room T xs).l.length ≤ room := by
  unfold putT
  dsimp only
  rw [List.length_append, List.length_take]
  omega
theorem putT_wf {room : Nat} {T : TS} {P : Int → Prop} (h : ∀ a ∈ T.l, P a) {xs : List Int} (hx : ∀ a ∈ xs, P a) : ∀ a ∈ (putT room T xs).l, P a := by
  intro a ha
  unfold putT at ha
  dsimp only at ha
  rcases List.mem_append.1 ha with ha | ha
  · exact h a ha
  · exact hx a (List.mem_of_mem_take ha)
set_option maxHeartbeats 1000000 in
/-- Shade, of a row of words. -/
theorem shade_any (w wr : World) (E : TB) (σ0 : HS) (T : TS) (σ : HS) (v : Value) (h0 : 0 < w.heap.size) (h : TR w wr E σ0 T σ v) (A : Option Addr) (n c : Nat) (vs : List Int) (hl : vs.length = n) (hn : n ≤ 10000) (hx : ∀ x ∈ vs, x ≤ 9223372036854775807)
    (hr : ∀ j x, vs[j]? = some x → ∃ sb off, A = some ⟨sb, off, none⟩ ∧ sb < wr.heap.size ∧ ¬ E.foot σ0 v sb ∧ wr.cell? ⟨sb, off + j, none⟩ = some (.int .i64 x)) :
    Calls Tryd.prog 62 #[.pointer (some ⟨E.B.b, 0, none⟩), .pointer (some ⟨E.bp, 0, none⟩), .slice A n c] wr (Went w E σ0 (shA σ0 E.room vs (T, 0)).1 v (.int .i64 ((shA σ0 E.room vs (T, 0)).2 : Int)) wr) := by
  have H := Lib.hid h
  have HL := Lib.hid hl
  have HX := Lib.hid hx
  have HR := Lib.hid hr
  clear h hl hx hr
  go_enter Tryd.func62, Tryd.ntmps62
  obtain ⟨wo, rfl⟩ : ∃ wo : World, wo = wr := ⟨_, rfl⟩
  go_wp2_with fail
  go_loopw [7, 9, 10, 11, 14] (fun nv _ _ _ iv wr => ∃ (q : Nat) (σ1 : HS) (v1 : Value), q ≤ n ∧ iv = .int .i64 (q : Int) ∧ nv = .int .i64 ((shA σ0 E.room (vs.take q) (T, 0)).2 : Int) ∧ TR w wr E σ0 (shA σ0 E.room (vs.take q) (T, 0)).1 σ1 v1 ∧ Kept (E.foot σ0 v) wo wr ∧ Pil.Grow v v1 wo.heap.size) (fun _ _ _ _ iv _ => n - (intOf iv).toNat)
  case atStart => exact ⟨0, σ, v, Nat.zero_le _, rfl, rfl, H.out, Kept.refl _ _, Pil.Grow.refl _ _⟩
  case round =>
    clear H
    obtain ⟨q, σ1, v1, hq, rfl, rfl, htr, hk, hg⟩ := hrel
    have H := Lib.hid htr
    have HK := Lib.hid hk
    have HG := Lib.hid hg
    clear htr hk hg
    by_cases hqn : q < n
    · have hqn2 : (q : Int) < (n : Int) := by omega
      obtain ⟨x, hx⟩ : ∃ x, vs[q]? = some x := ⟨_, List.getElem?_eq_getElem (by have := HL.out; omega)⟩
      have HTK := Lib.hid (show shA σ0 E.room (vs.take (q + 1)) (T, 0) = sh1 σ0 E.room (shA σ0 E.room (vs.take q) (T, 0)) x by
        rw [List.take_add_one, hx]; exact shA_snoc _ _ _ _ _)
      have hcb : (shA σ0 E.room (vs.take q) (T, 0)).2 ≤ q := by
        have := shA_cnt σ0 E.room (vs.take q) (T, 0)
        rw [List.length_take] at this
        dsimp only at this
        omega
      have hxm := HX.out x (List.mem_of_getElem? hx)
      obtain ⟨sb, off, rfl, hsb, hsf, hsc⟩ := HR.out q x hx
      have hsc1 := (HK.out.cell_ (p := ⟨sb, off + q, none⟩) hsb hsf).trans hsc
      have hsb1 : sb < wr.heap.size := Nat.lt_of_lt_of_le hsb HK.out.size
      obtain ⟨p, hp⟩ : ∃ p, shA σ0 E.room (vs.take q) (T, 0) = p := ⟨_, rfl⟩
      rw [hp] at H HTK hcb ⊢
      clear hx hsc hp
      go_wp2_with fail
      refine (Hp.find_any E.B E.ls σ1 x _ H.out.hw.hp hxm).mono ?_
      rintro e w5 ⟨rfl, d, rfl⟩
      have H5 := Lib.hid (H.out.call (below_drewN (Below.refl _ _) d))
      have HK5 := Lib.hid (HK.out.drewN d)
      have hz5 : (wr.drewN d).heap.size = wr.heap.size := rfl
      generalize wr.drewN d = w5 at *
      clear H HK hsc1
      rcases hfo : fo σ0 x with _ | a
      · have HE := Lib.hid (HTK.out.trans (sh1_none hfo))
        rw [← H5.out.evo.fo_] at hfo
        rw [fo_none hfo]
        clear hfo
        dsimp only
        go_wp2_with fail
        go_roundw
        case rel => exact ⟨q + 1, σ1, v1, by omega, by go_num, by rw [HE.out], by rw [HE.out]; exact H5.out, HK5.out, HG.out⟩
        case measure => simp [intOf]; omega
      · have HFO := Lib.hid hfo
        rw [← H5.out.evo.fo_] at hfo
        obtain ⟨f1, f2, k, s, t, hh, ht⟩ := fo_hat H5.out.hw.hp hfo
        rw [f1, f2]
        have hab := hat_bound H5.out.hw.hp hh
        have hca : p.1.c a = t.2.2 := by
          rw [← H5.out.col]
          unfold col
          rw [hh]
          dsimp only
          rw [ht]
          rfl
        have HHH := Lib.hid hh
        have HHT := Lib.hid ht
        clear hfo f1 f2
        dsimp only
        by_cases hc0 : p.1.c a = 0
        · have HE := Lib.hid (HTK.out.trans (sh1_new HFO.out hc0))
          rw [hc0] at hca
          have HC0 := Lib.hid hca.symm
          clear hc0 hca hh ht
          go_wp2_with fail
          refine (shade_yes E.B E.ls σ1 a k s t _ H5.out.hw.hp (by omega) HHH.out HHT.out HC0.out).mono ?_
          rintro e w6 ⟨rfl, hp6, hk6⟩
          have H6 := Lib.hid (H5.out.painted h0 HHH.out HHT.out hp6 hk6)
          have HK6 := Lib.hid (HK5.out.trans (hk6.wide fun i _ e => .inl (e ▸ foot_bm E.B σ0)))
          clear hp6 hk6 H5 HK5
          generalize ({ σ1 with M := Tm.put σ1.M k s (some (t.1, t.2.1, 1)) } : HS) = σ6 at *
          dsimp only
          go_wp2_with fail
          have hA := fresh_alloc (Below.refl w6.heap.size w6) (.cells #[.int .i64 a] 3)
          have hN := Blk.new w6 #[.int .i64 a] 3
          have H7 := Lib.hid (H6.out.call hA)
          have HK7 := Lib.hid (HK6.out.alloc (.cells #[.int .i64 a] 3))
          have hz67 := hA.size
          have hz06 := HK6.out.size
          have hnf : ¬ Pil.own E.bp v1 w6.heap.size := fun e => Nat.lt_irrefl _ (H6.out.foot_lt (.inr e))
          refine (Pil.put_any E.zp E.bp E.room _ _ _ _ 1 1 [a] _ H7.out.pl rfl H7.out.len H7.out.rm (by omega) (fun z hz => by rw [List.mem_singleton.1 hz]; exact wf_addr hab) (fun j z hz => by
            obtain ⟨rfl, rfl⟩ : j = 0 ∧ z = a := by
              rcases j with _ | j
              · exact ⟨rfl, by simpa using hz.symm⟩
              · simp at hz
            exact ⟨w6.heap.size, 0, rfl, by simp, hnf, hN.cell 0⟩)).mono ?_
          rintro e w8 ⟨rfl, ⟨v8, hp8, hg8⟩, hk8⟩
          have HP8 := Lib.hid (show TR w w8 E σ0 (putT E.room ⟨upd p.1.c a 1, p.1.l, p.1.lost⟩ [a]) σ6 v8 from H7.out.piled h0 hp8 hg8 hk8 (putT_len (T := ⟨upd p.1.c a 1, p.1.l, p.1.lost⟩) H7.out.len [a]) (putT_wf (T := ⟨upd p.1.c a 1, p.1.l, p.1.lost⟩) H7.out.wf fun b hb => by rw [List.mem_singleton.1 hb]; exact hab))
          have HK8 := Lib.hid (HK7.out.step hk8 fun i hi e => foot_grow HG.out hi (.inr e))
          have HG8 := Lib.hid (grow_trans HG.out hg8 (by omega))
          clear hp8 hg8 hk8 hA hN H6 HK6 H7 HK7 hnf
          dsimp only
          go_wp2_with fail
          go_roundw
          case rel => exact ⟨q + 1, σ6, v8, by omega, by go_num, by rw [HE.out]; go_num, by rw [HE.out]; exact HP8.out, HK8.out, HG8.out⟩
          case measure => simp [intOf]; omega
        · have HE := Lib.hid (HTK.out.trans (sh1_old HFO.out hc0))
          rw [hca] at hc0
          have HC0 := Lib.hid hc0
          clear hc0 hca hh ht
          go_wp2_with fail
          refine (shade_no E.B E.ls σ1 a _ H5.out.hw.hp (by omega) (fun k' s' t' e1 e2 => by
            rw [HHH.out] at e1; cases e1; rw [HHT.out] at e2; cases e2; exact HC0.out)).mono ?_
          rintro e w6 ⟨rfl, hb6⟩
          have H6 := Lib.hid (H5.out.call hb6)
          have HK6 := Lib.hid (HK5.out.trans (Kept.of_below hb6 _))
          clear hb6 H5 HK5
          dsimp only
          go_wp2_with fail
          go_roundw
          case rel => exact ⟨q + 1, σ1, v1, by omega, by go_num, by rw [HE.out], by rw [HE.out]; exact H6.out, HK6.out, HG.out⟩
          case measure => simp [intOf]; omega
    · obtain rfl : q = n := by omega
      have hqn2 : ¬ (q : Int) < (q : Int) := by omega
      have HE := Lib.hid (show vs.take q = vs from List.take_of_length_le (by have := HL.out; omega))
      rw [HE.out] at H ⊢
      go_wp2_with fail
      go_ret
      exact ⟨σ1, v1, rfl, H.out, HK.out, HG.out⟩
end Go.Proofs.YtoajbjeiplolnaaDoorR.Tn
