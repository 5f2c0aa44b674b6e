/- A chain of objects: what a heap is while it is made; how it is marked (plain). -/
import Derived.Test.YtoajbjeiplolnaaDoorRTb
namespace Go.Proofs.YtoajbjeiplolnaaDoorR.Ch
open Go.RowKit Ar Hp Tn
set_option linter.unusedSimpArgs false
set_option linter.unusedVariables false

def ad (j : Nat) : Int := 1048576 + 2 * (j : Int)
theorem ad_is (k s : Nat) : ((1048576 + 32 * k + s * 2 : Nat) : Int) = ad (16 * k + s) := by
  unfold ad
  rw [Int.natCast_add, Int.natCast_add, Int.natCast_mul, Int.natCast_mul, Int.natCast_add, Int.natCast_mul]
  have e : ((1048576 : Nat) : Int) = 1048576 := rfl
  rw [e]
  obtain ⟨K, hK⟩ : ∃ K : Int, 1048576 = K := ⟨_, rfl⟩
  rw [hK]
  clear hK e
  omega
theorem ad_ne {i j : Nat} (h : i ≠ j) : ad i ≠ ad j := by
  unfold ad
  omega
theorem pk_two (ws : List Int) (a : Int) : pk [1, 16] ws a 2 = [ws.getD (a + ((1 : Nat) : Int) - 1048576).toNat 0] := rfl
theorem shA_one (σ : HS) (room : Nat) (v : Int) (p : TS × Nat) : shA σ room [v] p = sh1 σ room p v := rfl
/-- So many objects, so many of them linked. -/
structure CS (i m : Nat) (σ : HS) : Prop where
  len : σ.ps.length = 8
  pg : ∀ k, 16 * k < i → ∃ p, σ.ps[k]? = some (some p) ∧ p.c = 1 ∧ p.n = 16 ∧ ∀ s, p.U.testBit s = decide (16 * k + s < i ∧ s < 16)
  no : ∀ k, k < 8 → i ≤ 16 * k → σ.ps[k]? = some none
  wh : ∀ k s t, σ.M k s = some t → t.1 = 0 ∧ t.2.2 = 0
  sr : σ.sr = (i : Int)
  gv : σ.gv = ((2 * i : Nat) : Int)
  wl : σ.ws.length = 256
  w1 : ∀ j, j < m → σ.ws[2 * j + 1]? = some (ad (j + 1))
  w0 : ∀ j, m ≤ j → j < i → σ.ws[2 * j + 1]? = some 0
theorem CS.start : CS 0 0 (Hp.start 8) :=
  ⟨rfl, fun k hk => by omega, fun k hk _ => by
    show (List.replicate 8 (none : Option PM))[k]? = _
    rw [List.getElem?_replicate, if_pos hk], fun k s t ht => (by cases ht), rfl, rfl, (List.length_replicate ..), fun j hj => by omega, fun j _ hj => by omega⟩
theorem CS.hat_ {i m : Nat} {σ : HS} {w : World} {B : HB} {ls : List (List Int)} (h : CS i m σ) (hp : HpAt w B ls σ) {j : Nat} (hj : j < i) : hat σ (ad j) = some (j / 16, j % 16) := by
  obtain ⟨p, h1, h2, h3, h4⟩ := h.pg (j / 16) (by omega)
  have := hat_at (z := 2) hp h1 (s := j % 16) (by omega) (by rw [h4, decide_eq_true_eq]; omega) (by rw [h2]; rfl)
  rw [ad_is, show 16 * (j / 16) + j % 16 = j by omega] at this
  exact this
theorem CS.full {i m : Nat} {σ : HS} (h : CS i m σ) {k : Nat} (hk : 16 * k ≤ i) : Full σ.ps 1 k := by
  intro j hj p hp _ s hs
  obtain ⟨q, h1, _, h3, h4⟩ := h.pg j (by omega)
  rw [hp] at h1
  cases h1
  rw [h4, decide_eq_true_eq]
  omega
theorem CS.full8 {i m : Nat} {σ : HS} (h : CS i m σ) (h16 : i % 16 = 0) : Full σ.ps 1 σ.ps.length := by
  intro j hj p hp hc s hs
  by_cases hji : 16 * j < i
  · obtain ⟨q, h1, _, h3, h4⟩ := h.pg j hji
    rw [hp] at h1
    cases h1
    rw [h4, decide_eq_true_eq]
    omega
  · rw [h.no j (by have := h.len; omega) (by omega)] at hp
    cases hp
/-- What a page is behind one more; the page may have been taken just ahead of it. -/
theorem CS.made_ {i m : Nat} {σ : HS} (h : CS i m σ) {ps : List (Option PM)} {k s : Nat} {p : PM} (hl : ps.length = 8) (ho : ∀ k', k' ≠ k → ps[k']? = σ.ps[k']?) (hi : i = 16 * k + s) (hs : s < 16) (hk8 : k < 8) (hc : p.c = 1) (hn : p.n = 16) (hU : ∀ j, p.U.testBit j = decide (16 * k + j < i ∧ j < 16)) (hm : m ≤ i) :
    CS (i + 1) m (made { σ with ps := ps } k p s 2 0 2 false) := by
  have hins : ∀ j, (Pg.ins p.U s).testBit j = decide (16 * k + j < i + 1 ∧ j < 16) := by
    intro j
    rw [Pg.ins_bit, hU, Bool.eq_iff_iff]
    simp only [Bool.or_eq_true, decide_eq_true_eq]
    omega
  refine ⟨?_, fun k' hk' => ?_, fun k' hk1 hk2 => ?_, fun k' s' t ht => ?_, ?_, ?_, ?_, fun j hj => ?_, fun j h1 h2 => ?_⟩
  · show (ps.set k _).length = 8
    rw [List.length_set]
    exact hl
  · by_cases e : k' = k
    · subst e
      exact ⟨_, List.getElem?_set_self (show k' < ps.length by omega), hc, hn, hins⟩
    · obtain ⟨q, q1, q2, q3, q4⟩ := h.pg k' (by omega)
      refine ⟨q, ((List.getElem?_set_ne (fun h => e h.symm)).trans (ho k' e)).trans q1, q2, q3, fun j => ?_⟩
      rw [q4, Bool.eq_iff_iff]
      simp only [decide_eq_true_eq]
      omega
  · have e : k' ≠ k := by
      rintro rfl
      omega
    exact ((List.getElem?_set_ne (fun h => e h.symm)).trans (ho k' e)).trans (h.no k' hk1 (by omega))
  · have ht : Tm.put σ.M k s (some (((0 : Nat) : Int), σ.sr + 1, if false then 2 else 0)) k' s' = some t := ht
    unfold Tm.put at ht
    split at ht
    · obtain rfl := Option.some.inj ht
      exact ⟨rfl, rfl⟩
    · exact h.wh k' s' t ht
  · show σ.sr + 1 = _
    rw [h.sr]
    omega
  · show σ.gv + ((2 : Nat) : Int) = _
    rw [h.gv]
    omega
  · show (clr σ.ws (32 * k + s * 2) 2).length = 256
    rw [clr_len]
    exact h.wl
  · show ((σ.ws.set (32 * k + s * 2) 0).set (32 * k + s * 2 + 1) 0)[2 * j + 1]? = _
    rw [List.getElem?_set_ne (by omega), List.getElem?_set_ne (by omega)]
    exact h.w1 j hj
  · show ((σ.ws.set (32 * k + s * 2) 0).set (32 * k + s * 2 + 1) 0)[2 * j + 1]? = _
    have hl := h.wl
    by_cases e : j = i
    · have e2 : 2 * j + 1 = 32 * k + s * 2 + 1 := by omega
      rw [e2, List.getElem?_set_self (by simp; omega)]
    · rw [List.getElem?_set_ne (by omega), List.getElem?_set_ne (by omega)]
      exact h.w0 j h1 (by omega)
/-- A link. -/
theorem CS.link {i m : Nat} {σ : HS} (h : CS i m σ) (hm : m < i) (hi : i ≤ 64) : CS i (m + 1) { σ with ws := σ.ws.set (ad m + 1 - 1048576).toNat (ad (m + 1)) } := by
  have e : (ad m + 1 - 1048576).toNat = 2 * m + 1 := by
    unfold ad
    omega
  rw [e]
  have hl := h.wl
  refine ⟨h.len, h.pg, h.no, h.wh, h.sr, h.gv, by show (σ.ws.set _ _).length = 256; rw [List.length_set]; exact hl, fun j hj => ?_, fun j h1 h2 => ?_⟩
  · show (σ.ws.set (2 * m + 1) (ad (m + 1)))[2 * j + 1]? = _
    by_cases e : j = m
    · subst e
      rw [List.getElem?_set_self (by omega)]
    · rw [List.getElem?_set_ne (by omega)]
      exact h.w1 j (by omega)
  · show (σ.ws.set (2 * m + 1) (ad (m + 1)))[2 * j + 1]? = _
    rw [List.getElem?_set_ne (by omega)]
    exact h.w0 j (by omega) h2
theorem ad_tn (j : Nat) : (ad j + ((1 : Nat) : Int) - 1048576).toNat = 2 * j + 1 := by
  unfold ad
  obtain ⟨K, hK⟩ : ∃ K : Int, 1048576 = K := ⟨_, rfl⟩
  rw [hK]
  clear hK
  omega
theorem ptrs_lit {σ : HS} {a : Int} {k s : Nat} {t : Tm.Thing} (hh : hat σ a = some (k, s)) (ht : σ.M k s = some t) (h0 : t.1 = 0) : ptrs [[1, 16]] σ a = [σ.ws.getD (a + ((1 : Nat) : Int) - 1048576).toNat 0] := by
  unfold ptrs
  rw [hh]
  dsimp only
  unfold nfl
  rw [ht, Option.getD_some, h0]
  exact pk_two σ.ws a
/-- What an object of the chain points to. -/
theorem CS.ptrs_ {i m : Nat} {σ : HS} {w : World} {B : HB} (h : CS i m σ) (hp : HpAt w B [[1, 16]] σ) {j : Nat} (hj : j < i) : ptrs [[1, 16]] σ (ad j) = [if j < m then ad (j + 1) else 0] := by
  have hh := h.hat_ hp hj
  obtain ⟨_, p, hp1, hU, hsn⟩ := hat_addr hp hh
  obtain ⟨t, ht⟩ := Option.isSome_iff_exists.1 ((hp.inv _ _).2 ⟨p, hp1, hU⟩)
  rw [ptrs_lit hh ht (h.wh _ _ t ht).1, ad_tn, List.getD]
  by_cases hm : j < m
  · rw [if_pos hm, h.w1 j hm, Option.getD_some]
  · rw [if_neg hm, h.w0 j (by omega) hj, Option.getD_some]
/-- The state where the chain was marked up to i, from k on. -/
structure CT (k i n : Nat) (T : TS) : Prop where
  l : T.l = if i < n then [ad i] else []
  lost : T.lost = false
  c1 : i < n → T.c (ad i) = 1
  black : ∀ j, k ≤ j → j < i → j < n → T.c (ad j) = 2
  white : ∀ j, (j < k ∨ i < j) → j < n → T.c (ad j) = 0
theorem put_one {room : Nat} (hr : 1 ≤ room) (c : Int → Int) (a : Int) : putT room ⟨c, [], false⟩ [a] = ⟨c, [a], false⟩ := by
  unfold putT
  have h2 : [a].take room = [a] := List.take_of_length_le (by simpa using hr)
  have h3 : ¬ room < 1 := by omega
  simp [h2, h3]
theorem CT.step {k i n m room : Nat} {σ : HS} {w : World} {B : HB} {T : TS} (h : CT k i n T) (hs : CS n m σ) (hm : m = n - 1) (hp : HpAt w B [[1, 16]] σ) (hi : i < n) (hki : k ≤ i) (hr : 1 ≤ room) :
    CT k (i + 1) n (stT [[1, 16]] σ room T).1 ∧ (stT [[1, 16]] σ room T).2 = (if i + 1 < n then 2 else 1) := by
  obtain ⟨c, l, lost⟩ := T
  have hl := h.l
  have hlo := h.lost
  rw [if_pos hi] at hl
  dsimp only at hl hlo
  subst hl hlo
  have hc1 : c (ad i) = 1 := h.c1 hi
  have hbl : ∀ j, k ≤ j → j < i → j < n → c (ad j) = 2 := h.black
  have hwh : ∀ j, (j < k ∨ i < j) → j < n → c (ad j) = 0 := h.white
  rw [stT_one, hs.ptrs_ hp hi]
  by_cases hin : i + 1 < n
  · rw [if_pos (by omega)]
    have hf : fo σ (ad (i + 1)) = some (ad (i + 1)) := fo_of_hat hp (hs.hat_ hp hin)
    have e : shA σ room [ad (i + 1)] ((⟨c, [], false⟩ : TS), 0) = (⟨upd c (ad (i + 1)) 1, [ad (i + 1)], false⟩, 1) := by
      rw [shA_one, sh1_new hf (hwh (i + 1) (by omega) hin)]
      exact congrArg (fun x => (x, 1)) (put_one hr (upd c (ad (i + 1)) 1) (ad (i + 1)))
    rw [e]
    refine ⟨⟨by rw [if_pos hin], rfl, fun _ => ?_, fun j h1 h2 h3 => ?_, fun j h1 h2 => ?_⟩, by rw [if_pos hin]; rfl⟩
    · show upd (upd c (ad (i + 1)) 1) (ad i) 2 (ad (i + 1)) = 1
      rw [upd_ne _ _ (ad_ne (by omega)), upd_same]
    · show upd (upd c (ad (i + 1)) 1) (ad i) 2 (ad j) = 2
      by_cases e : j = i
      · rw [e, upd_same]
      · rw [upd_ne _ _ (ad_ne e), upd_ne _ _ (ad_ne (by omega))]
        exact hbl j h1 (by omega) h3
    · show upd (upd c (ad (i + 1)) 1) (ad i) 2 (ad j) = 0
      rw [upd_ne _ _ (ad_ne (by omega)), upd_ne _ _ (ad_ne (by omega))]
      exact hwh j (by omega) h2
  · rw [if_neg (by omega)]
    have e : shA σ room [0] ((⟨c, [], false⟩ : TS), 0) = (⟨c, [], false⟩, 0) := by
      rw [shA_one]
      exact sh1_none (fo_low (by decide))
    rw [e]
    refine ⟨⟨by rw [if_neg hin], rfl, fun h => absurd h hin, fun j h1 h2 h3 => ?_, fun j h1 h2 => ?_⟩, by rw [if_neg hin]; rfl⟩
    · show upd c (ad i) 2 (ad j) = 2
      by_cases e : j = i
      · rw [e, upd_same]
      · rw [upd_ne _ _ (ad_ne e)]
        exact hbl j h1 (by omega) h3
    · show upd c (ad i) 2 (ad j) = 0
      rw [upd_ne _ _ (ad_ne (by omega))]
      exact hwh j (by omega) h2
theorem CT.first {k n m room : Nat} {σ : HS} {w : World} {B : HB} (hs : CS n m σ) (hp : HpAt w B [[1, 16]] σ) (hk : k < n) (hr : 1 ≤ room) (hwh : ∀ a, col σ a = 0) :
    shA σ room [ad k] ((⟨col σ, [], false⟩ : TS), 0) = (⟨upd (col σ) (ad k) 1, [ad k], false⟩, 1) ∧ CT k k n ⟨upd (col σ) (ad k) 1, [ad k], false⟩ ∧ shA σ room [ad k] ((⟨upd (col σ) (ad k) 1, [ad k], false⟩ : TS), 0) = (⟨upd (col σ) (ad k) 1, [ad k], false⟩, 0) := by
  have hf : fo σ (ad k) = some (ad k) := fo_of_hat hp (hs.hat_ hp hk)
  obtain ⟨c, hc⟩ : ∃ c, col σ = c := ⟨_, rfl⟩
  rw [hc]
  have hwh : ∀ a, c a = 0 := fun a => hc ▸ hwh a
  clear hc
  refine ⟨?_, ⟨by rw [if_pos hk], rfl, fun _ => upd_same _ _ _, fun j h1 h2 _ => by omega, fun j h1 h2 => ?_⟩, ?_⟩
  · rw [shA_one, sh1_new hf (hwh (ad k))]
    exact congrArg (fun x => (x, 1)) (put_one hr (upd c (ad k) 1) (ad k))
  · show upd c (ad k) 1 (ad j) = 0
    rw [upd_ne _ _ (ad_ne (by omega))]
    exact hwh (ad j)
  · rw [shA_one]
    exact sh1_old (p := (⟨upd c (ad k) 1, [ad k], false⟩, 0)) hf (by show upd c (ad k) 1 (ad k) ≠ 0; rw [upd_same]; decide)
theorem PH_aside {w wr w' : World} {B : HB} {ls : List (List Int)} {σ : HS} {zp room : Nat} {S : Nat → Prop} (h : PH w wr B ls σ zp room) (h0 : 0 < w.heap.size) (hk : Kept S wr w') (hS : ∀ i, S i → ¬ HFoot B σ i ∧ B.z ≤ i ∧ i ≠ zp) : PH w w' B ls σ zp room :=
  ⟨h.hw.aside h0 hk fun i hi => ⟨(hS i hi).1, (hS i hi).2.1⟩, h.pl.keep fun k hk2 => hk.block k (h.pl.lt hk2) (fun e => by
    rcases hk2 with rfl | hk2
    · exact (hS _ e).2.2 rfl
    · cases hk2), h.far, h.hz⟩
theorem Rd_cell {w wr : World} {E : TB} {σ0 : HS} {T : TS} {σ : HS} {v : Value} {L : List Int} {g c : Nat} (h : Rd w wr E σ0 T σ v L (some ⟨g, 0, none⟩) c) {i : Nat} {x : Int} (hx : L[i]? = some x) : wr.cell? ⟨g, i, none⟩ = some (.int .i64 x) := by
  obtain ⟨g2, e, _, h3⟩ := h.at_ hx
  injection e with e
  injection e with e
  rw [e]
  exact h3
theorem Lat {L : List Int} {N k : Nat} (h : L = (List.range N).map ad) (hk : k < N) : L[k]? = some (ad k) := by
  rw [h, List.getElem?_map, List.getElem?_range hk]
  rfl
/-- The heap, the pile, the list, while the chain is made. -/
structure CR (w wr : World) (B : HB) (zp R i m : Nat) (σ : HS) (L : List Int) (A : Option Addr) (c : Nat) : Prop where
  ph : PH w wr B [[1, 16]] σ zp R
  lr : LR w wr B σ L A c
  cs : CS i m σ
  rz : (Value.slice A L.length c).ownBlock ≠ some zp
/-- A page was just taken. -/
structure CF (w wr : World) (B : HB) (zp R i m : Nat) (σ0 : HS) (bp : Nat) (L : List Int) (A : Option Addr) (c : Nat) : Prop where
  ph : PH w wr B [[1, 16]] { σ0 with ps := σ0.ps.set (i / 16) (some ⟨bp, 1, 16, 0, 0⟩) } zp R
  lr : LR w wr B { σ0 with ps := σ0.ps.set (i / 16) (some ⟨bp, 1, 16, 0, 0⟩) } L A c
  cs : CS i m σ0
  h16 : i % 16 = 0
  rz : (Value.slice A L.length c).ownBlock ≠ some zp
section
variable {w wr w' : World} {B : HB} {zp R i m : Nat} {σ : HS} {L : List Int} {A : Option Addr} {c : Nat} {e : Ending}
theorem CR.call (h : CR w wr B zp R i m σ L A c) (hb : Below wr.heap.size wr w') : CR w w' B zp R i m σ L A c := ⟨h.ph.call hb, h.lr.call hb, h.cs, h.rz⟩
/-- Alloc. -/
theorem CR.al (h : CR w wr B zp R i m σ L A c) (h0 : 0 < w.heap.size) (hi : i < 64) (hm : m ≤ i) (ha : Al B [[1, 16]] σ 0 2 false wr e w') :
    ∃ a f, e = .returned (.tuple #[.int .i64 a, .int .i64 f]) ∧ (f = 5 ∧ i % 16 = 0 ∧ CR w w' B zp R i m σ L A c ∨ f = 0 ∧ a = ad i ∧ ∃ σ', CR w w' B zp R (i + 1) m σ' L A c) := by
  by_cases h16 : i % 16 = 0
  · obtain ⟨he, _, hb⟩ := al_no ha (h.cs.full8 h16)
    exact ⟨_, _, he, .inl ⟨rfl, h16, h.call hb⟩⟩
  · obtain ⟨p, hp, hpc, hpn, hpU⟩ := h.cs.pg (i / 16) (by omega)
    obtain ⟨he, hat6, hk6⟩ := al_is ha (k := i / 16) (s := i % 16) (z := 2) (p := p) hp hpc (h.cs.full (k := i / 16) (by omega)) (by omega) (by rw [hpU, decide_eq_false_iff_not]; omega) (fun j hj => by rw [hpU, decide_eq_true_eq]; omega) (by rw [hpc]; rfl)
    rw [ad_is, show 16 * (i / 16) + i % 16 = i by omega] at he
    exact ⟨_, _, he, .inr ⟨rfl, rfl, made σ (i / 16) p (i % 16) 2 0 2 false, h.ph.step (h.ph.hw.step h0 hat6 hk6 (foot_al hp)) hk6 (foot_al hp) (fun i hi => .inl (made_foot hp i hi)), h.lr.kept hk6 (foot_al hp) (fun x hx => .inl (made_foot hp x hx)),
      h.cs.made_ h.cs.len (fun k' hk' => rfl) (by omega) (by omega) (by omega) hpc hpn hpU (by omega), h.rz⟩⟩
/-- Fresh. -/
theorem CR.fr (h : CR w wr B zp R i m σ L A c) (h0 : 0 < w.heap.size) (hi : i < 64) (h16 : i % 16 = 0) (hf : Fr B [[1, 16]] σ 1 16 wr e w') :
    e = .returned (.bool true) ∧ ∃ bp, CF w w' B zp R i m σ bp L A c := by
  obtain ⟨bp, he, hbp, hat5, hk5⟩ := fr_is hf (k := i / 16) (h.cs.no _ (by omega) (by omega)) (fun j hj e => by
    obtain ⟨p, hp, _⟩ := h.cs.pg j (by omega)
    rw [hp] at e
    cases e)
  exact ⟨he, bp, h.ph.step (h.ph.hw.step h0 hat5 hk5 (fun i hi => hi ▸ foot_gp B _)) hk5 (fun i hi => hi ▸ foot_gp B _) (fresh_foot hbp), h.lr.kept hk5 (fun i hi => hi ▸ foot_gp B _) (fresh_foot hbp), h.cs, h16, h.rz⟩
theorem CF.al {bp : Nat} (h : CF w wr B zp R i m σ bp L A c) (h0 : 0 < w.heap.size) (hi : i < 64) (hm : m ≤ i) (ha : Al B [[1, 16]] { σ with ps := σ.ps.set (i / 16) (some ⟨bp, 1, 16, 0, 0⟩) } 0 2 false wr e w') :
    e = .returned (.tuple #[.int .i64 (ad i), .int .i64 0]) ∧ ∃ σ', CR w w' B zp R (i + 1) m σ' L A c := by
  have h16 := h.h16
  have hkl : i / 16 < σ.ps.length := by rw [h.cs.len]; omega
  have hget : (σ.ps.set (i / 16) (some ⟨bp, 1, 16, 0, 0⟩))[i / 16]? = some (some ⟨bp, 1, 16, 0, 0⟩) := List.getElem?_set_self hkl
  have hfull : Full (σ.ps.set (i / 16) (some ⟨bp, 1, 16, 0, 0⟩)) 1 (i / 16) := fun j hj p hp hc s hs => by
    rw [List.getElem?_set_ne (by omega)] at hp
    exact h.cs.full (k := i / 16) (by omega) j hj p hp hc s hs
  obtain ⟨he, hat6, hk6⟩ := al_is ha (k := i / 16) (s := 0) (z := 2) (p := ⟨bp, 1, 16, 0, 0⟩) hget rfl hfull (show 0 < 16 by omega) (show (0 : Nat).testBit 0 = false by decide) (fun i hi => by omega) rfl
  rw [ad_is, show 16 * (i / 16) + 0 = i by omega] at he
  exact ⟨he, made { σ with ps := σ.ps.set (i / 16) (some ⟨bp, 1, 16, 0, 0⟩) } (i / 16) ⟨bp, 1, 16, 0, 0⟩ 0 2 0 2 false, h.ph.step (h.ph.hw.step h0 hat6 hk6 (foot_al hget)) hk6 (foot_al hget) (fun i hi => .inl (made_foot hget i hi)), h.lr.kept hk6 (foot_al hget) (fun x hx => .inl (made_foot hget x hx)),
    h.cs.made_ (by rw [List.length_set]; exact h.cs.len) (fun k' hk' => List.getElem?_set_ne (fun e => hk' e.symm)) (by omega) (by omega) (by omega) rfl rfl (fun j => by
      rw [Nat.zero_testBit, eq_comm, decide_eq_false_iff_not]
      omega) (by omega), h.rz⟩
theorem hasF_of {ls : List (List Int)} {a : Int} {k s : Nat} (hh : hat σ a = some (k, s)) (hn : nfl ls σ k s = 2) : hasF ls σ a 1 = true := by
  unfold hasF
  rw [hh]
  show (decide ((0 : Int) ≤ 1) && decide ((1 : Int) < ((nfl ls σ k s : Nat) : Int))) = true
  rw [hn]
  decide
theorem nfl_of {k s : Nat} {t : Tm.Thing} (ht : σ.M k s = some t) (h0 : t.1 = 0) : nfl [[1, 16]] σ k s = 2 := by
  unfold nfl
  rw [ht, Option.getD_some, h0]
  rfl
/-- The field that points is a field. -/
theorem CR.hasF_ (h : CR w wr B zp R i m σ L A c) {j : Nat} (hj : j < i) : hasF [[1, 16]] σ (ad j) 1 = true := by
  have hh := h.cs.hat_ h.ph.hw.hp hj
  obtain ⟨_, p, hp1, hU, _⟩ := hat_addr h.ph.hw.hp hh
  obtain ⟨t, ht⟩ := Option.isSome_iff_exists.1 ((h.ph.hw.hp.inv _ _).2 ⟨p, hp1, hU⟩)
  exact hasF_of hh (nfl_of ht (h.cs.wh _ _ t ht).1)
theorem CR.bd (h : CR w wr B zp R i m σ L A c) {j : Nat} (hj : j < i) : 1048576 ≤ ad j ∧ ad j ≤ 1050624 := hat_bound h.ph.hw.hp (h.cs.hat_ h.ph.hw.hp hj)
/-- Store. -/
theorem CR.store {j : Nat} (h : CR w wr B zp R (j + 1 + 1) j σ L A c) (h0 : 0 < w.heap.size) (hi : j + 1 < 64) (hat6 : HpAt w' B [[1, 16]] { σ with ws := σ.ws.set (ad j + 1 - 1048576).toNat (ad (j + 1)) }) (hk6 : Kept (fun i => i = B.gw) wr w') :
    ∃ σ', CR w w' B zp R (j + 1 + 1) (j + 1) σ' L A c :=
  ⟨_, h.ph.step (h.ph.hw.step h0 hat6 hk6 (fun x hx => hx ▸ foot_gw B _)) hk6 (fun x hx => hx ▸ foot_gw B _) (fun x hx => .inl hx), h.lr.kept hk6 (fun x hx => hx ▸ foot_gw B _) (fun x hx => .inl hx), h.cs.link (by omega) (by omega), h.rz⟩
/-- The list, by one. -/
theorem CR.app {w6 w7 : World} {a : Int} {A' : Option Addr} {c' : Nat} {x : Obj} (h : CR w w6 B zp R (i + 1) i σ L A c) (h0 : 0 < w.heap.size)
    (ho : w7.ownsRow w.heap.size 3 1 (.slice A' (L.length + 1) c') (L.length + 1) (ints' L ++ [.int .i64 a])) (hg : (w6.alloc x).grownBy w7 (Value.slice A L.length c).ownBlock) (hat : (Value.slice A' (L.length + 1) c').ownBlock = (Value.slice A L.length c).ownBlock ∨ (Value.slice A' (L.length + 1) c').ownBlock = some (w6.heap.size + 1)) :
    CR w w7 B zp R (i + 1) (i + 1 - 1) σ (L ++ [a]) A' c' := by
  have hk7 : Kept (fun k => some k = (Value.slice A L.length c).ownBlock) w6 w7 := (Kept.of_below (fresh_alloc (Below.refl _ _) _) _).step (Kept.of_grown hg) (fun i _ e => e)
  have hz : zp < w6.heap.size := h.ph.pl.1.lt
  refine ⟨PH_aside h.ph h0 hk7 (fun x e => ⟨h.lr.far x e.symm, h.lr.hi x e.symm, fun e2 => h.rz (by rw [← e2]; exact e.symm)⟩), h.lr.app (Nat.le_of_lt h.ph.hw.hp.z_lt) (fun x hx => h.ph.hw.hp.lt hx) ho hat, h.cs, ?_⟩
  rw [show (L ++ [a]).length = L.length + 1 by simp]
  rcases hat with e | e
  · rw [e]
    exact h.rz
  · rw [e]
    intro e2
    injection e2 with e2
    omega
end
end Go.Proofs.YtoajbjeiplolnaaDoorR.Ch