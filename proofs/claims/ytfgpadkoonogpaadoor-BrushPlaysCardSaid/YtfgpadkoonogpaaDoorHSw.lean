/- A heap being filled, a list of its objects beside it; marked, swept: what stands behind each step (plain). -/
import Derived.Test.YtfgpadkoonogpaaDoorHpy
import Derived.Test.YtfgpadkoonogpaaDoorBMp
namespace Go.Proofs.YtfgpadkoonogpaaDoor.Hp
open Go.RowKit Pg Ar Tm
set_option linter.unusedSimpArgs false
set_option linter.unusedVariables false

/-- A list of the call's own, apart from the heap. -/
structure LR (w wr : World) (B : HB) (σ : HS) (L : List Int) (A : Option Addr) (c : Nat) : Prop where
  own : wr.ownsRow w.heap.size 3 1 (.slice A L.length c) L.length (ints' L)
  far : ∀ k, (Value.slice A L.length c).ownBlock = some k → ¬ HFoot B σ k
  hi : ∀ k, (Value.slice A L.length c).ownBlock = some k → B.z ≤ k
theorem LR.call {w wr w' : World} {B : HB} {σ : HS} {L : List Int} {A : Option Addr} {c : Nat} (h : LR w wr B σ L A c) (hb : Below wr.heap.size wr w') : LR w w' B σ L A c :=
  ⟨own_block h.own fun k hk => hb.block k (h.own.lt k hk).2, h.far, h.hi⟩
theorem LR.kept {S : Nat → Prop} {w wr w' : World} {B : HB} {σ σ' : HS} {L : List Int} {A : Option Addr} {c : Nat} (h : LR w wr B σ L A c) (hk : Kept S wr w') (hS : ∀ i, S i → HFoot B σ i) (hf : ∀ i, HFoot B σ' i → HFoot B σ i ∨ wr.heap.size ≤ i) : LR w w' B σ' L A c :=
  ⟨own_block h.own fun k hk' => hk.block k (h.own.lt k hk').2 (fun e => h.far k hk' (hS k e)), fun k hk' e => by
    rcases hf k e with h1 | h1
    · exact h.far k hk' h1
    · have := (h.own.lt k hk').2; omega, h.hi⟩
/-- The list has stayed while what turned is neither its own nor the heap's. -/
theorem LR.aside {S : Nat → Prop} {w wr w' : World} {B : HB} {σ : HS} {L : List Int} {A : Option Addr} {c : Nat} (h : LR w wr B σ L A c) (hk : Kept S wr w') (hS : ∀ i, S i → some i ≠ (Value.slice A L.length c).ownBlock) : LR w w' B σ L A c :=
  ⟨own_block h.own fun k hk' => hk.block k (h.own.lt k hk').2 (fun e => hS k e hk'.symm), h.far, h.hi⟩
theorem LR.ps {w wr : World} {B : HB} {σ σ' : HS} {L : List Int} {A : Option Addr} {c : Nat} (h : LR w wr B σ L A c) (hf : ∀ i, HFoot B σ' i → HFoot B σ i) : LR w wr B σ' L A c := ⟨h.own, fun k hk e => h.far k hk (hf k e), h.hi⟩
theorem HW.aside {S : Nat → Prop} {w wr w' : World} {B : HB} {ls : List (List Int)} {σ : HS} (h : HW w wr B ls σ) (h0 : 0 < w.heap.size) (hk : Kept S wr w') (hS : ∀ i, S i → ¬ HFoot B σ i ∧ B.z ≤ i) : HW w w' B ls σ :=
  ⟨h.hp.kept hk (fun i hi e => by
    rcases hi with hi | hi
    · exact (hS i e).1 hi
    · have := (hS i e).2; omega), h.newy, h.bel.trans (hk.below h.bel.size (fun i hi e => by have := (hS i e).2; have := h.new; omega)), h.tab.kept hk (fun e => by have := (hS _ e).2; have := h.new; omega)⟩
theorem own_neM {w : World} {B b : Nat} {T : List Int} {f : Int → Bool} {v : Value} {n : Nat} {xs : List Value} {e : TypeId} {size : Nat} (h : w.ownsRow B e size v n xs) (hb : BMap w b T f) : some b ≠ v.ownBlock := by
  rcases h.2 with ⟨rfl, _⟩ | ⟨g, _, cur, rfl, _, hh, _⟩
  · simp [Value.ownBlock]
  · intro he
    have he' : b = g := by simpa [Value.ownBlock] using he
    subst he'
    exact hb.ne_blk (b' := b) (cs := cur) (t := e) hh rfl
theorem foot_ps {B : HB} {σ σ' : HS} (h : σ'.ps = σ.ps) {i : Nat} (hi : HFoot B σ' i) : HFoot B σ i := by
  unfold HFoot at *
  rw [h] at hi
  exact hi
theorem foot_set {B : HB} {σ σ' : HS} {k i : Nat} {x : Option PM} (h : σ'.ps = σ.ps.set k x) (hi : HFoot B σ' i) : HFoot B σ i ∨ ∃ q, x = some q ∧ q.b = i := by
  rcases hi with hi | hi | hi
  · exact .inl (.inl hi)
  · exact .inl (.inr (.inl hi))
  · rw [h] at hi
    rcases foot_set_of hi with hi | hi
    · exact .inl (.inr (.inr hi))
    · exact .inr hi
theorem hat_bound {w : World} {B : HB} {ls : List (List Int)} {σ : HS} (h : HpAt w B ls σ) {a : Int} {q : Nat × Nat} (e : hat σ a = some q) : 1048576 ≤ a ∧ a ≤ 1050624 := by
  obtain ⟨k, s⟩ := q
  obtain ⟨p, z, f, g, g1, h2, h3, h4, h5, h6, h7, h8, h9, h10, h11, h12, h13, h14, h15⟩ := hat_some h e
  omega
theorem wf_addr {a : Int} (h : 1048576 ≤ a ∧ a ≤ 1050624) : (Lit.int .i64 a).wf = true := by
  show (decide (IntKind.i64.min ≤ a) && decide (a ≤ IntKind.i64.max)) = true
  rw [show IntKind.i64.min = -9223372036854775808 by decide, show IntKind.i64.max = 9223372036854775807 by decide]
  simp only [Bool.and_eq_true, decide_eq_true_eq]
  omega
theorem dec_addT (T : List Int) (v : Int) : (fun x => if x = v then true else decide (x ∈ T)) = fun x => decide (x ∈ addT T v) := by
  funext x
  by_cases hx : x = v
  · rw [if_pos hx]
    exact (decide_eq_true (mem_addT.2 (.inl hx))).symm
  · rw [if_neg hx]
    exact decide_eq_decide.2 ⟨fun h => mem_addT.2 (.inr h), fun h => (mem_addT.1 h).resolve_left hx⟩
/-- A heap being filled: so many pages, rounds, objects; all White. -/
structure Fill (w wr : World) (B : HB) (ls : List (List Int)) (P i : Nat) (L : List Int) (σ : HS) : Prop where
  hw : HW w wr B ls σ
  len : σ.ps.length = P
  sr0 : 0 ≤ σ.sr
  sr : σ.sr ≤ (i : Int)
  gv0 : 0 ≤ σ.gv
  gv : σ.gv ≤ ((16 * i : Nat) : Int)
  wh : ∀ k s t, σ.M k s = some t → t.2.2 = 0
  num : num σ = L.length
  at_ : ∀ a ∈ L, ∃ q, hat σ a = some q
theorem Fill.call {w wr w' : World} {B : HB} {ls : List (List Int)} {P i : Nat} {L : List Int} {σ : HS} (h : Fill w wr B ls P i L σ) (hb : Below wr.heap.size wr w') : Fill w w' B ls P i L σ := { h with hw := h.hw.call hb }
theorem Fill.aside {S : Nat → Prop} {w wr w' : World} {B : HB} {ls : List (List Int)} {P i : Nat} {L : List Int} {σ : HS} (h : Fill w wr B ls P i L σ) (h0 : 0 < w.heap.size) (hk : Kept S wr w') (hS : ∀ i, S i → ¬ HFoot B σ i ∧ B.z ≤ i) : Fill w w' B ls P i L σ := { h with hw := h.hw.aside h0 hk hS }
theorem Fill.more {w wr : World} {B : HB} {ls : List (List Int)} {P i j : Nat} {L : List Int} {σ : HS} (h : Fill w wr B ls P i L σ) (hj : i ≤ j) : Fill w wr B ls P j L σ :=
  { h with sr := by have := h.sr; omega, gv := by have := h.gv; omega }
theorem al_bds {B : HB} {ls : List (List Int)} {σ : HS} {sh n : Nat} {bl : Bool} {w w' : World} {e : Ending} (h : Al B ls σ sh n bl w e w') : ∃ a f, e = .returned (.tuple #[.int .i64 a, .int .i64 f]) := by
  rcases h with ⟨he, _⟩ | ⟨k, p, s, z, he, _⟩
  · exact ⟨_, _, he⟩
  · exact ⟨_, _, he⟩
/-- What Alloc may have done. -/
def Step (w wr : World) (B : HB) (ls : List (List Int)) (P i : Nat) (L : List Int) (A : Option Addr) (c : Nat) (a f : Int) : Prop :=
  (f = 5 ∧ ∃ σ, Fill w wr B ls P i L σ ∧ LR w wr B σ L A c) ∨ (f = 0 ∧ ∃ σ, Fill w wr B ls P (i + 1) (L ++ [a]) σ ∧ LR w wr B σ L A c)
theorem step_al {w wr w' : World} {B : HB} {ls : List (List Int)} {P i : Nat} {L : List Int} {A : Option Addr} {c : Nat} {σ : HS} {sh : Nat} {l : List Int} {e : Ending} (h0 : 0 < w.heap.size) (h : Fill w wr B ls P i L σ) (hl : LR w wr B σ L A c) (h16 : l.length ≤ 16)
    (ha : Al B ls σ sh l.length false wr e w') : ∃ a f, e = .returned (.tuple #[.int .i64 a, .int .i64 f]) ∧ Step w w' B ls P i L A c a f := by
  rcases ha with ⟨he, _, h1, h2⟩ | ⟨k, p, s, z, he, h2, h3, h4, h5, h6, h7, h8, h9, h10⟩
  · exact ⟨_, _, he, .inl ⟨rfl, σ, h.call h2, hl.call h2⟩⟩
  · obtain ⟨n1, n2, n3, n4⟩ := al_num h.hw.hp h3 h5 h6 h7 h9
    refine ⟨_, _, he, .inr ⟨rfl, _, ⟨h.hw.step h0 h9 h10 (foot_al h3), ?_, ?_, ?_, ?_, ?_, ?_, ?_, ?_⟩, hl.kept h10 (foot_al h3) (fun i hi => ?_)⟩⟩
    · show (σ.ps.set k _).length = P
      rw [List.length_set]
      exact h.len
    · show 0 ≤ σ.sr + 1
      have := h.sr0
      omega
    · show σ.sr + 1 ≤ ((i + 1 : Nat) : Int)
      have := h.sr
      omega
    · show 0 ≤ σ.gv + (l.length : Int)
      have := h.gv0
      omega
    · show σ.gv + (l.length : Int) ≤ ((16 * (i + 1) : Nat) : Int)
      have := h.gv
      omega
    · intro k' s' t ht
      have hp' : put σ.M k s (some ((sh : Int), σ.sr + 1, if false then 2 else 0)) k' s' = some t := ht
      clear ht
      unfold put at hp'
      split at hp'
      · obtain rfl := Option.some.inj hp'
        rfl
      · exact h.wh k' s' t hp'
    · rw [n1, h.num, List.length_append]
      rfl
    · intro a ha
      rcases List.mem_append.1 ha with ha | ha
      · obtain ⟨q, hq⟩ := h.at_ a ha
        exact ⟨q, n3 a q hq⟩
      · rw [List.mem_singleton.1 ha]
        exact ⟨_, n2⟩
    · rcases foot_set (σ := σ) rfl hi with h | ⟨q, hq, rfl⟩
      · exact .inl h
      · obtain rfl := Option.some.inj hq
        exact .inl (show HFoot B σ p.b from foot_pg h3)
/-- What Fresh may have done. -/
theorem step_fr {w wr w' : World} {B : HB} {ls : List (List Int)} {P i : Nat} {L : List Int} {A : Option Addr} {c : Nat} {σ : HS} {cl : Int} {n : Nat} {e : Ending} (h0 : 0 < w.heap.size) (h : Fill w wr B ls P i L σ) (hl : LR w wr B σ L A c)
    (hf : Fr B ls σ cl n wr e w') : ∃ b, e = .returned (.bool b) ∧ ∃ σ', Fill w w' B ls P i L σ' ∧ LR w w' B σ' L A c := by
  rcases hf with ⟨he, _, _, hb⟩ | ⟨k, bp, he, h1, h2, h3, h4, h5⟩
  · exact ⟨_, he, σ, h.call hb, hl.call hb⟩
  · obtain ⟨n1, n2⟩ := fr_num h.hw.hp h1 h4
    refine ⟨_, he, _, ⟨h.hw.step h0 h4 h5 (fun i hi => hi ▸ foot_gp B _), ?_, h.sr0, h.sr, h.gv0, h.gv, h.wh, n1.trans h.num, ?_⟩, hl.kept h5 (fun i hi => hi ▸ foot_gp B _) (fun i hi => ?_)⟩
    · show (σ.ps.set k _).length = P
      rw [List.length_set]
      exact h.len
    · intro a ha
      obtain ⟨q, hq⟩ := h.at_ a ha
      exact ⟨q, n2 a q hq⟩
    · rcases foot_set (σ := σ) rfl hi with h | ⟨q, hq, rfl⟩
      · exact .inl h
      · obtain rfl := Option.some.inj hq
        exact .inr h3
/-- The list has grown by what the heap gave. -/
theorem LR.app {w w1 w' : World} {B : HB} {σ : HS} {L : List Int} {A : Option Addr} {c : Nat} {a : Int} {A' : Option Addr} {c' : Nat} (h : LR w w1 B σ L A c) (hz : B.z ≤ w1.heap.size) (hlt : ∀ i, HFoot B σ i → i < w1.heap.size)
    (ho : w'.ownsRow w.heap.size 3 1 (.slice A' (L.length + 1) c') (L.length + 1) (ints' L ++ [.int .i64 a])) (hat : (Value.slice A' (L.length + 1) c').ownBlock = (Value.slice A L.length c).ownBlock ∨ (Value.slice A' (L.length + 1) c').ownBlock = some (w1.heap.size + 1)) : LR w w' B σ (L ++ [a]) A' c' := by
  have hl : (L ++ [a]).length = L.length + 1 := by simp
  refine ⟨by rw [hl]; simpa [ints'] using ho, fun k hk e => ?_, fun k hk => ?_⟩
  · rw [hl] at hk
    rcases hat with h1 | h1
    · exact h.far k (h1.symm.trans hk) e
    · have h2 : k = _ := Option.some.inj (hk.symm.trans h1)
      have := hlt k e
      omega
  · rw [hl] at hk
    rcases hat with h1 | h1
    · exact h.hi k (h1.symm.trans hk)
    · have h2 : k = _ := Option.some.inj (hk.symm.trans h1)
      omega
/-- Objects being marked: T are those that were. -/
structure Mark (w wr : World) (B : HB) (ls : List (List Int)) (P : Nat) (σ1 : HS) (L T : List Int) (σ : HS) : Prop where
  hw : HW w wr B ls σ
  ps : σ.ps = σ1.ps
  nd : T.Pairwise (· ≠ ·)
  sub : ∀ a ∈ T, a ∈ L
  col : ∀ k s t, σ.M k s = some t → (t.2.2 = 0 ∧ ∀ a ∈ T, hat σ a ≠ some (k, s)) ∨ (t.2.2 = 1 ∧ ∃ a ∈ T, hat σ a = some (k, s))
  num : num σ = L.length
  at_ : ∀ a ∈ L, ∃ q, hat σ a = some q
  len : σ.ps.length = P
theorem Mark.call {w wr w' : World} {B : HB} {ls : List (List Int)} {P : Nat} {L T : List Int} {σ1 σ : HS} (h : Mark w wr B ls P σ1 L T σ) (hb : Below wr.heap.size wr w') : Mark w w' B ls P σ1 L T σ := { h with hw := h.hw.call hb }
theorem Mark.aside {S : Nat → Prop} {w wr w' : World} {B : HB} {ls : List (List Int)} {P : Nat} {L T : List Int} {σ1 σ : HS} (h : Mark w wr B ls P σ1 L T σ) (h0 : 0 < w.heap.size) (hk : Kept S wr w') (hS : ∀ i, S i → ¬ HFoot B σ i ∧ B.z ≤ i) : Mark w w' B ls P σ1 L T σ := { h with hw := h.hw.aside h0 hk hS }
theorem Fill.mark {w wr : World} {B : HB} {ls : List (List Int)} {P i : Nat} {L : List Int} {σ : HS} (h : Fill w wr B ls P i L σ) : Mark w wr B ls P σ L [] σ :=
  ⟨h.hw, rfl, List.Pairwise.nil, fun a ha => (by cases ha), fun k s t ht => .inl ⟨h.wh k s t ht, fun a ha => (by cases ha)⟩, h.num, h.at_, h.len⟩
/-- An object that is marked. -/
theorem Mark.here {w wr : World} {B : HB} {ls : List (List Int)} {P : Nat} {L T : List Int} {σ1 σ : HS} {a : Int} (h : Mark w wr B ls P σ1 L T σ) (ha : a ∈ L) :
    ∃ k s t, hat σ a = some (k, s) ∧ σ.M k s = some t ∧ ((t.2.2 ≠ 0 ∧ a ∈ T ∧ Mark w wr B ls P σ1 L (addT T a) σ) ∨ (t.2.2 = 0 ∧ a ∉ T)) := by
  obtain ⟨⟨k, s⟩, hq⟩ := h.at_ a ha
  obtain ⟨_, p, hp, hU, _⟩ := hat_addr h.hw.hp hq
  obtain ⟨t, ht⟩ := Option.isSome_iff_exists.1 ((h.hw.hp.inv k s).2 ⟨p, hp, hU⟩)
  refine ⟨k, s, t, hq, ht, ?_⟩
  rcases h.col k s t ht with ⟨h1, h2⟩ | ⟨h1, b, hb, h2⟩
  · exact .inr ⟨h1, fun e => h2 a e hq⟩
  · have e := hat_inj h.hw.hp hq h2
    subst e
    have hT : addT T a = T := by unfold addT; rw [if_pos hb]
    exact .inl ⟨by omega, hb, by rw [hT]; exact h⟩
theorem Mark.add {w wr w' : World} {B : HB} {ls : List (List Int)} {P : Nat} {L T : List Int} {σ1 σ : HS} {a : Int} {k s : Nat} {t : Thing} (h0 : 0 < w.heap.size) (h : Mark w wr B ls P σ1 L T σ) (ha : a ∈ L) (hq : hat σ a = some (k, s)) (ht : σ.M k s = some t)
    (h' : HpAt w' B ls { σ with M := put σ.M k s (some (t.1, t.2.1, 1)) }) (hk : Kept (fun i => i = B.bm) wr w') : Mark w w' B ls P σ1 L (addT T a) { σ with M := put σ.M k s (some (t.1, t.2.1, 1)) } := by
  refine ⟨h.hw.step h0 h' hk (fun i hi => hi ▸ foot_bm B _), h.ps, addT_nodup h.nd, fun b hb => ?_, fun k' s' t' ht' => ?_, h.num, h.at_, h.len⟩
  · rcases mem_addT.1 hb with rfl | hb
    · exact ha
    · exact h.sub b hb
  · have hp' : put σ.M k s (some (t.1, t.2.1, 1)) k' s' = some t' := ht'
    clear ht'
    have hat' : ∀ b, hat { σ with M := put σ.M k s (some (t.1, t.2.1, 1)) } b = hat σ b := fun _ => rfl
    unfold put at hp'
    split at hp'
    · rename_i e
      obtain ⟨rfl, rfl⟩ := e
      obtain rfl := Option.some.inj hp'
      exact .inr ⟨rfl, a, mem_addT.2 (.inl rfl), hq⟩
    · rename_i e
      rcases h.col k' s' t' hp' with ⟨h1, h2⟩ | ⟨h1, b, hb, h2⟩
      · refine .inl ⟨h1, fun b hb => ?_⟩
        rcases mem_addT.1 hb with rfl | hb
        · intro e2
          rw [hat', hq] at e2
          injection e2 with e2
          injection e2 with e2 e3
          exact e ⟨e2.symm, e3.symm⟩
        · exact h2 b hb
      · exact .inr ⟨h1, b, mem_addT.2 (.inr hb), h2⟩
/-- Pages being swept: those below k were. -/
structure Swept (w wr : World) (B : HB) (ls : List (List Int)) (σ : HS) (k : Nat) (g : Nat) (σ' : HS) : Prop where
  hw : HW w wr B ls σ'
  sub : Sub σ' σ
  len : σ'.ps.length = σ.ps.length
  M : ∀ i s, σ'.M i s = if i < k then sw1 (σ.M i s) else σ.M i s
  num : num σ' + g = num σ
theorem Swept.call {w wr w' : World} {B : HB} {ls : List (List Int)} {σ σ' : HS} {k g : Nat} (h : Swept w wr B ls σ k g σ') (hb : Below wr.heap.size wr w') : Swept w w' B ls σ k g σ' := { h with hw := h.hw.call hb }
theorem Swept.start {w wr : World} {B : HB} {ls : List (List Int)} {σ : HS} (h : HW w wr B ls σ) : Swept w wr B ls σ 0 0 σ := ⟨h, Sub.refl σ, rfl, fun i s => (by rw [if_neg (by omega)]), rfl⟩
theorem Swept.skip {w wr w' : World} {B : HB} {ls : List (List Int)} {σ σ' : HS} {k g : Nat} (h : Swept w wr B ls σ k g σ') (hg : Ar.get σ'.ps (k : Int) = none) (hb : Below wr.heap.size wr w') : Swept w w' B ls σ (k + 1) g σ' := by
  refine ⟨h.hw.call hb, h.sub, h.len, fun i s => ?_, h.num⟩
  have h1 := h.M i s
  by_cases hi : i = k
  · subst hi
    rw [if_neg (by omega)] at h1
    rw [if_pos (by omega)]
    have hn : σ'.M i s = none := by
      rcases hm : σ'.M i s with _ | t
      · rfl
      · obtain ⟨q, hq, _⟩ := (h.hw.hp.inv i s).1 (by rw [hm]; rfl)
        rw [get_nat, hq] at hg
        cases hg
    rw [← h1, hn]
    rfl
  · rw [h1]
    by_cases hlt : i < k
    · rw [if_pos hlt, if_pos (by omega)]
    · rw [if_neg hlt, if_neg (by omega)]
theorem Swept.step {w wr w' : World} {B : HB} {ls : List (List Int)} {σ σ' : HS} {k g : Nat} {p : PM} {e : Ending} (h0 : 0 < w.heap.size) (h : Swept w wr B ls σ k g σ') (hp : σ'.ps[k]? = some (some p)) (hs : Sw B ls σ' k p wr e w') :
    ∃ (n : Nat) (σ'' : HS), e = .returned (.int .i64 (n : Int)) ∧ Swept w w' B ls σ (k + 1) (g + n) σ'' ∧ Kept (fun i => i = p.b ∨ i = B.bm ∨ i = B.gp) wr w' ∧ (∀ i, HFoot B σ'' i → HFoot B σ' i) := by
  obtain ⟨x, he, h1, h2, h3⟩ := hs
  have hxb : ∀ q, x = some q → q.c = p.c ∧ q.b = p.b := by
    rintro q rfl
    rcases h3 with ⟨h3, _⟩ | ⟨q', h3, h4, h5, _⟩
    · cases h3
    · injection h3 with h3
      subst h3
      exact ⟨h5, h4⟩
  have hnum := sw_num h.hw.hp hp (fun q hq => (hxb q hq).1) h1
  refine ⟨_, _, he, ⟨h.hw.step h0 h1 h2 (foot_sw hp), (sub_sweep hp (fun q hq => (hxb q hq).1) _).trans h.sub, ?_, fun i s => ?_, ?_⟩, h2, fun i hi => ?_⟩
  · show (σ'.ps.set k x).length = _
    rw [List.length_set]
    exact h.len
  · show swM σ'.M k (Bit.bl p.U) i s = _
    rw [swM_in h.hw.hp hp, h.M]
    by_cases hi : i = k
    · subst hi
      rw [if_pos rfl, if_neg (by omega), if_pos (by omega)]
    · rw [if_neg hi]
      by_cases hlt : i < k
      · rw [if_pos hlt, if_pos (by omega)]
      · rw [if_neg hlt, if_neg (by omega)]
  · have := h.num
    omega
  · rcases foot_set (σ := σ') rfl hi with h | ⟨q, hq, rfl⟩
    · exact h
    · rw [(hxb q hq).2]
      exact foot_pg hp
/-- All pages were swept: what was marked is there, and no other; White. -/
structure Done (B : HB) (ls : List (List Int)) (wr : World) (L T : List Int) (σ : HS) : Prop where
  num : num σ = T.length
  col : ∀ a, col σ a = 0
  grey : greyOf σ = []
  yes : ∀ a ∈ T, ∃ q, hat σ a = some q
  back : ∀ a, (∃ q, hat σ a = some q) → a ∈ T
  find : ∀ a ∈ L, a ∈ T → fbase σ.ps a = a ∧ (slot σ.ps a).isSome = true
  no : ∀ a ∈ L, a ∉ T → (slot σ.ps a).isSome = false
  lo : ∀ a ∈ L, a ≤ 1050624
  wf : ∀ a ∈ L, (Lit.int .i64 a).wf = true
theorem swept_done {w wr w0 : World} {B : HB} {ls : List (List Int)} {P : Nat} {L T : List Int} {σ1 σ σ' : HS} {g : Nat} (h : Mark w w0 B ls P σ1 L T σ) (hs : Swept w wr B ls σ P g σ') : Done B ls wr L T σ' ∧ g + T.length = L.length := by
  have hm : ∀ i s, σ'.M i s = sw1 (σ.M i s) := by
    intro i s
    have h1 := hs.M i s
    by_cases hi : i < P
    · rw [if_pos hi] at h1
      exact h1
    · rw [if_neg hi] at h1
      rw [h1]
      rcases hh : σ.M i s with _ | t
      · rfl
      · obtain ⟨q, hq, _⟩ := (h.hw.hp.inv i s).1 (by rw [hh]; rfl)
        have := (List.getElem?_eq_some_iff.1 hq).1
        have := h.len
        omega
  have hw := h.hw.hp
  have hw' := hs.hw.hp
  have htrue : ∀ k s, (σ'.M k s).isSome = true → ∃ a ∈ T, hat σ a = some (k, s) := by
    intro k s e
    rw [hm] at e
    rcases hh : σ.M k s with _ | t
    · rw [hh] at e; cases e
    · rcases h.col k s t hh with ⟨h1, _⟩ | ⟨_, h2⟩
      · rw [hh] at e
        unfold sw1 at e
        simp [h1] at e
      · exact h2
  have hyes : ∀ a ∈ T, ∃ q, hat σ' a = some q := by
    intro a ha
    obtain ⟨⟨k, s⟩, hq⟩ := h.at_ a (h.sub a ha)
    obtain ⟨_, p, hp, hU, _⟩ := hat_addr hw hq
    obtain ⟨t, ht⟩ := Option.isSome_iff_exists.1 ((hw.inv k s).2 ⟨p, hp, hU⟩)
    refine ⟨_, hat_sub hw hw' (.inr hs.sub) hq ?_⟩
    rw [hm, ht]
    rcases h.col k s t ht with ⟨_, h2⟩ | ⟨h1, _⟩
    · exact absurd hq (h2 a ha)
    · unfold sw1
      simp [h1]
  have hsig : ∀ k s, (σ'.M k s).isSome = true → (σ.M k s).isSome = true := by
    intro k s e
    rw [hm] at e
    rcases hh : σ.M k s with _ | t
    · rw [hh] at e; cases e
    · rfl
  have hback : ∀ a, (∃ q, hat σ' a = some q) → a ∈ T := by
    rintro a ⟨⟨k, s⟩, hq⟩
    obtain ⟨_, p, hp, hU, _⟩ := hat_addr hw' hq
    have hmm := (hw'.inv k s).2 ⟨p, hp, hU⟩
    obtain ⟨b, hb, hqb⟩ := htrue k s hmm
    have := hat_sub hw' hw (.inl hs.sub) hq (hsig _ _ hmm)
    rw [hat_inj hw this hqb]
    exact hb
  have hnum := num_of hw' h.nd fun a => ⟨hyes a, hback a⟩
  have hcol : ∀ a, Hp.col σ' a = 0 := by
    intro a
    unfold Hp.col
    split
    · rfl
    · rename_i k s hq
      rw [hm]
      rcases σ.M k s with _ | t
      · rfl
      · unfold sw1
        by_cases h0 : t.2.2 = 0
        · simp [h0]
        · simp [h0]
  refine ⟨⟨hnum, hcol, ?_, hyes, hback, fun a _ ha => ?_, fun a ha hn => ?_, fun a ha => ?_, fun a ha => ?_⟩, by have := hs.num; have := h.num; omega⟩
  · unfold greyOf
    rw [List.filter_eq_nil_iff]
    intro a _
    rw [hcol]
    decide
  · obtain ⟨⟨k, s⟩, hq⟩ := hyes a ha
    obtain ⟨p, z, f, g, h1, h2, _⟩ := hat_some hw' hq
    exact ⟨h2, by rw [h1]; rfl⟩
  · rcases hh : slot σ'.ps a with _ | ⟨k', p', s'⟩
    · rfl
    · exfalso
      obtain ⟨h1, h2, h3, h4, h5, h6, h7, h8, h9⟩ := slot_some hw'.ar hh
      obtain ⟨⟨k, s⟩, hq⟩ := h.at_ a ha
      obtain ⟨p, z, f, g, g1, _⟩ := hat_some hw hq
      obtain ⟨e1, e2, e3, e4, e5, e6, e7, e8, e9⟩ := slot_some hw.ar g1
      obtain rfl : k = k' := by omega
      obtain ⟨p2, hp2, hc⟩ := hs.sub k p' h1
      rw [e1] at hp2
      cases hp2
      rw [hc, h6] at e6
      obtain rfl : s' = s := by omega
      obtain ⟨b, hb, hqb⟩ := htrue k s' ((hw'.inv k s').2 ⟨p', h1, h2⟩)
      rw [hat_inj hw hqb hq] at hb
      exact hn hb
  · obtain ⟨q, hq⟩ := h.at_ a ha
    exact (hat_bound hw hq).2
  · obtain ⟨q, hq⟩ := h.at_ a ha
    exact wf_addr (hat_bound hw hq)
end Go.Proofs.YtfgpadkoonogpaaDoor.Hp
