/- Package heap: what the arena's steps do to a heap; the contracts of Fresh, Class, Room, Given, Color, turn, field, Load, Store. Package heap: the contracts of Fresh, Class, Given, Color, turn (Shade, Finish), field, Load, Store. Package heap: the contracts of Shade, Finish, field, Load, Store. Package heap: the contracts of Load, Store. Package heap: the contract of Alloc. -/
import Derived.Test.YtfgpadkoonogpaaDoorHp
import Derived.StillTailTactics
import Derived.RegionTactic
namespace Go.Proofs.YtfgpadkoonogpaaDoor.Hp
open Go.RowKit Pg Ar Tm
set_option linter.unusedSimpArgs false
set_option linter.unusedVariables false

namespace HpMem
variable {w w' : World} {B : HB} {ls : List (List Int)} {σ : HS}
theorem b_far (h : HpMem w B ls σ) : ¬ Foot B.ba B.gp B.gw σ.ps B.b := by
  rintro (e | e | e | ⟨k, p, hk, e⟩)
  · exact blk_ne h.blk h.ar.blk (by decide) e
  · exact blk_ne h.blk h.ar.rowp (by decide) e
  · exact blk_ne h.blk h.ar.roww (by decide) e
  · exact blk_ne h.blk (h.ar.page k p hk).1.blk (by decide) e.symm
theorem bm_far (h : HpMem w B ls σ) : ¬ Foot B.ba B.gp B.gw σ.ps B.bm := by
  rintro (e | e | e | ⟨k, p, hk, e⟩)
  · exact h.mp.ne_blk h.ar.blk e
  · exact h.mp.ne_blk h.ar.rowp e
  · exact h.mp.ne_blk h.ar.roww e
  · exact h.mp.ne_blk (h.ar.page k p hk).1.blk e.symm
theorem b_bm (h : HpMem w B ls σ) : B.bm ≠ B.b := h.mp.ne_blk h.blk
/-- What the arena alone has done. -/
theorem arena {S : Nat → Prop} {ps : List (Option PM)} {ws : List Int} (h : HpMem w B ls σ) (ha : ArenaAt w' B.ba B.gp B.gw ps ws) (hk : Kept S w w') (hS : ∀ i, S i → Foot B.ba B.gp B.gw σ.ps i ∨ w.heap.size ≤ i)
    (hf : ∀ i, Foot B.ba B.gp B.gw ps i → Foot B.ba B.gp B.gw σ.ps i ∨ w.heap.size ≤ i) : HpMem w' B ls { σ with ps := ps, ws := ws } := by
  have hb : ¬ S B.b := fun e => by
    rcases hS _ e with e | e
    · exact h.b_far e
    · have := h.blk.lt; omega
  have hm : ¬ S B.bm := fun e => by
    rcases hS _ e with e | e
    · exact h.bm_far e
    · have := h.mp.lt; omega
  exact
  { blk := hk.blk h.blk hb
    ar := ha
    mp := h.mp.block (hk.block _ h.mp.lt hm)
    yz := h.yz
    shl := h.shl.keep fun i _ hi => hk.block i (by have := h.z_lt; omega) fun e => by
      rcases hS _ e with e | e
      · have := h.new i (.inr (.inr e)); omega
      · have := h.z_lt; omega
    new := fun i hi => by
      rcases hi with e | e | e
      · exact h.new i (.inl e)
      · exact h.new i (.inr (.inl e))
      · rcases hf i e with e | e
        · exact h.new i (.inr (.inr e))
        · have := h.z_lt; omega
    len := h.len }
/-- What stands in the map has turned. -/
theorem mapped {M : Nat → Nat → Option Thing} (h : HpMem w B ls σ) (hm : TMap w' B.bm M) (hg : w.grownBy w' (some B.bm)) : HpMem w' B ls { σ with M := M } :=
  { blk := (hg.block _ h.blk.lt (fun e => h.b_bm (Option.some.inj e).symm)).trans h.blk
    ar := h.ar.keep fun i hi => hg.block i (h.ar.lt hi) (fun e => h.bm_far (Option.some.inj e ▸ hi))
    mp := hm
    yz := h.yz
    shl := h.shl.keep fun i _ hi => hg.block i (by have := h.z_lt; omega) (fun e => by have := h.new B.bm (.inr (.inl rfl)); have := Option.some.inj e; omega)
    new := h.new
    len := h.len }
/-- The two counters have turned. -/
theorem counted {sr gv : Int} (h : HpMem w B ls σ) (hb : Blk w' B.b #[.pointer (some ⟨B.ba, 0, none⟩), .slice B.SA ls.length B.cS, .map (some B.bm), .int .i64 sr, .int .i64 gv] 116) (hk : ∀ i, i ≠ B.b → w'.heap[i]? = w.heap[i]?) : HpMem w' B ls { σ with sr := sr, gv := gv } :=
  { blk := hb
    ar := h.ar.keep fun i hi => hk i (fun e => h.b_far (e ▸ hi))
    mp := h.mp.block (hk _ h.b_bm)
    yz := h.yz
    shl := h.shl.keep fun i _ hi => hk i (fun e => by have := h.new B.b (.inl rfl); omega)
    new := h.new
    len := h.len }
end HpMem
namespace HpAt
variable {w w' : World} {B : HB} {ls : List (List Int)} {σ : HS}
/-- What the arena alone has done. -/
theorem arena {S : Nat → Prop} {ps : List (Option PM)} {ws : List Int} (h : HpAt w B ls σ) (ha : ArenaAt w' B.ba B.gp B.gw ps ws) (hk : Kept S w w') (hS : ∀ i, S i → Foot B.ba B.gp B.gw σ.ps i ∨ w.heap.size ≤ i)
    (hf : ∀ i, Foot B.ba B.gp B.gw ps i → Foot B.ba B.gp B.gw σ.ps i ∨ w.heap.size ≤ i)
    (hinv : ∀ k s, (σ.M k s).isSome = true ↔ ∃ p, ps[k]? = some (some p) ∧ p.U.testBit s = true)
    (hfit : ∀ k s t p, σ.M k s = some t → ps[k]? = some (some p) → ∃ l, ls[t.1.toNat]? = some l ∧ 0 ≤ t.1 ∧ Cls.cof l.length = p.c) : HpAt w' B ls { σ with ps := ps, ws := ws } :=
  ⟨h.toHpMem.arena ha hk hS hf, hinv, hfit⟩
/-- What stands in the map has turned. -/
theorem mapped {M : Nat → Nat → Option Thing} (h : HpAt w B ls σ) (hm : TMap w' B.bm M) (hg : w.grownBy w' (some B.bm))
    (hinv : ∀ k s, (M k s).isSome = true ↔ ∃ p, σ.ps[k]? = some (some p) ∧ p.U.testBit s = true)
    (hfit : ∀ k s t p, M k s = some t → σ.ps[k]? = some (some p) → ∃ l, ls[t.1.toNat]? = some l ∧ 0 ≤ t.1 ∧ Cls.cof l.length = p.c) : HpAt w' B ls { σ with M := M } :=
  ⟨h.toHpMem.mapped hm hg, hinv, hfit⟩
end HpAt
def fp (B : HB) (σ : HS) (i : Nat) : Prop := HFoot B σ i
/-- What Fresh does for a class that there is. -/
def Fr (B : HB) (ls : List (List Int)) (σ : HS) (c : Int) (n : Nat) (w : World) (e : Ending) (w' : World) : Prop :=
  (e = .returned (.bool false) ∧ (∀ i : Nat, i < σ.ps.length → σ.ps[i]? ≠ some none) ∧ HpAt w' B ls σ ∧ Below w.heap.size w w') ∨
  (∃ k bp, e = .returned (.bool true) ∧ σ.ps[k]? = some none ∧ (∀ i : Nat, i < k → σ.ps[i]? ≠ some none) ∧ w.heap.size ≤ bp ∧ HpAt w' B ls { σ with ps := σ.ps.set k (some ⟨bp, c, n, 0, 0⟩) } ∧ Kept (fun i => i = B.gp) w w')
theorem set_some {ps : List (Option PM)} {k i : Nat} {x : Option PM} {q : PM} (h : (ps.set k x)[i]? = some (some q)) : (i = k ∧ x = some q ∧ k < ps.length) ∨ (i ≠ k ∧ ps[i]? = some (some q)) := by
  rw [List.getElem?_set] at h
  by_cases e : k = i
  · subst e
    rw [if_pos rfl] at h
    split at h
    · exact .inl ⟨rfl, Option.some.inj h, by assumption⟩
    · cases h
  · rw [if_neg e] at h
    exact .inr ⟨fun e' => e e'.symm, h⟩
theorem foot_set_of {b gp gw k i : Nat} {ps : List (Option PM)} {x : Option PM} (h : Foot b gp gw (ps.set k x) i) : Foot b gp gw ps i ∨ ∃ q, x = some q ∧ q.b = i := by
  rcases h with e | e | e | ⟨j, q, hq, e⟩
  · exact .inl (.inl e)
  · exact .inl (.inr (.inl e))
  · exact .inl (.inr (.inr (.inl e)))
  · rcases set_some hq with ⟨_, e1, _⟩ | ⟨_, e1⟩
    · exact .inr ⟨q, e1, e⟩
    · exact .inl (.inr (.inr (.inr ⟨j, q, e1, e⟩)))
theorem grew_hp {w w' : World} {B : HB} {ls : List (List Int)} {σ : HS} {c : Int} {n : Nat} {e : Ending} (h : HpAt w B ls σ) (hg : Grew B.ba B.gp B.gw σ.ps σ.ws c n w e w') : Fr B ls σ c n w e w' := by
  rcases hg with ⟨h0, h1, h2⟩ | ⟨he, k, bp, h1, h2, h3, h4, h5⟩
  · exact .inl ⟨h0, h1, h.call h2, h2⟩
  · have hM : ∀ s, σ.M k s = none := by
      intro s
      cases hc : σ.M k s with
      | none => rfl
      | some t =>
        obtain ⟨p, hp, _⟩ := (h.inv k s).1 (by rw [hc]; rfl)
        rw [h1] at hp; cases hp
    refine .inr ⟨k, bp, he, h1, h2, h3, h.arena h4 h5 (fun i hi => .inl (.inr (.inl hi))) (fun i hi => ?_) (fun j s => ?_) (fun j s t p ht hp => ?_), h5⟩
    · rcases foot_set_of hi with e | ⟨q, e, e'⟩
      · exact .inl e
      · injection e with e; subst e; subst e'; exact .inr h3
    · rw [h.inv j s]
      constructor
      · rintro ⟨p, hp, hb⟩
        refine ⟨p, ?_, hb⟩
        rw [List.getElem?_set_ne (by rintro rfl; rw [h1] at hp; cases hp)]
        exact hp
      · rintro ⟨p, hp, hb⟩
        rcases set_some hp with ⟨rfl, e, _⟩ | ⟨_, e⟩
        · injection e with e
          subst e
          simp at hb
        · exact ⟨p, e, hb⟩
    · rcases set_some hp with ⟨rfl, e, _⟩ | ⟨_, e⟩
      · rw [hM s] at ht; cases ht
      · exact h.fit j s t p ht e
end Go.Proofs.YtfgpadkoonogpaaDoor.Hp

namespace Go.Proofs.YtfgpadkoonogpaaDoor.Hp
open Go.RowKit Pg Ar Tm
set_option linter.unusedSimpArgs false
set_option linter.unusedVariables false

theorem fresh_any (B : HB) (ls : List (List Int)) (σ : HS) (c : Int) (n : Nat) (w : World) (h : HpAt w B ls σ) (hn : Cls.csl c = (n : Int)) (h0 : 0 < n) :
    Calls Tryd.prog 29 #[.pointer (some ⟨B.b, 0, none⟩), .int .i64 c] w (Fr B ls σ c n w) := by
  have H := Lib.hid h
  have HN := Lib.hid hn
  obtain ⟨c0, c1, c2, c3, c4⟩ := h.five
  clear h hn
  go_enter Tryd.func29, Tryd.ntmps29
  go_wp2_with fail
  refine (none_any B ls σ _ H.out).mono ?_
  rintro e w1 ⟨rfl, rfl⟩
  dsimp only
  go_wp2_with fail
  refine (grow_any _ _ _ _ _ c n _ H.out.ar HN.out h0).mono ?_
  intro e w1 hg
  have hf := grew_hp H.out hg
  obtain ⟨r, rfl⟩ : ∃ r, e = .returned (.bool r) := by
    rcases hf with ⟨he, _⟩ | ⟨_, _, he, _⟩
    · exact ⟨_, he⟩
    · exact ⟨_, he⟩
  have HF := Lib.hid hf
  clear hg hf
  dsimp only
  go_wp2_with fail
  go_ret
  exact HF.out
theorem given_any (B : HB) (ls : List (List Int)) (σ : HS) (w : World) (h : HpAt w B ls σ) :
    Calls Tryd.prog 32 #[.pointer (some ⟨B.b, 0, none⟩)] w fun e w' => e = .returned (.int .i64 σ.gv) ∧ w = w' := by
  obtain ⟨c0, c1, c2, c3, c4⟩ := h.five
  clear h
  go_enter Tryd.func32, Tryd.ntmps32
  go_wp2_with fail
  go_ret
  exact ⟨rfl, rfl⟩
/-- A page's class, and whether it has a slot that is not used. -/
def kcl (σ : HS) (k : Int) : Value := match Ar.get σ.ps k with | none => .tuple #[.int .i64 (-1), .bool false] | some p => .tuple #[.int .i64 p.c, .bool (decide ((Bit.bl p.U).length < p.n))]
theorem class_any' (B : HB) (ls : List (List Int)) (σ : HS) (k : Int) (w : World) (h : HpAt w B ls σ) :
    Calls Tryd.prog 38 #[.pointer (some ⟨B.b, 0, none⟩), .int .i64 k] w fun e w' => e = .returned (kcl σ k) ∧ ∃ n, w' = w.drewN n := by
  have H := Lib.hid h
  obtain ⟨c0, c1, c2, c3, c4⟩ := h.five
  unfold kcl
  rcases hg : Ar.get σ.ps k with _ | p
  · have HG := Lib.hid hg
    clear h hg
    go_enter Tryd.func38, Tryd.ntmps38
    go_wp2_with fail
    refine (none_any B ls σ _ H.out).mono ?_
    rintro e w1 ⟨rfl, rfl⟩
    dsimp only
    go_wp2_with fail
    refine (page_any _ _ _ _ _ _ _ H.out.ar).mono ?_
    rw [HG.out]
    rintro e w1 ⟨rfl, rfl⟩
    dsimp only [ptr]
    go_wp2_with fail
    refine (count_nil _).mono ?_
    rintro e w1 ⟨rfl, rfl⟩
    dsimp only
    go_wp2_with fail
    refine (class_nil _).mono ?_
    rintro e w1 ⟨rfl, rfl⟩
    dsimp only
    go_wp2_with fail
    go_ret2
    exact ⟨rfl, 0, rfl⟩
  · obtain ⟨j, hj, hjp⟩ := get_some hg
    have HP := Lib.hid (h.ar.page j p hjp).1
    have HG := Lib.hid hg
    clear h hg hj hjp
    go_enter Tryd.func38, Tryd.ntmps38
    go_wp2_with fail
    refine (none_any B ls σ _ H.out).mono ?_
    rintro e w1 ⟨rfl, rfl⟩
    dsimp only
    go_wp2_with fail
    refine (page_any _ _ _ _ _ _ _ H.out.ar).mono ?_
    rw [HG.out]
    rintro e w1 ⟨rfl, rfl⟩
    dsimp only [ptr]
    go_wp2_with fail
    refine (count_any _ _ _ _ _ _ HP.out).mono ?_
    rintro e w1 ⟨rfl, d, rfl⟩
    have HP1 := Lib.hid (HP.out.drewN d)
    dsimp only
    go_wp2_with fail
    refine (class_any _ _ _ _ _ _ HP1.out).mono ?_
    rintro e w1 ⟨rfl, rfl⟩
    dsimp only
    go_wp2_with fail
    go_ret2
    exact ⟨rfl, d, rfl⟩
/-- An object's color. -/
def col (σ : HS) (addr : Int) : Int := match hat σ addr with | none => 0 | some (k, s) => ((σ.M k s).getD (0, 0, 0)).2.2
theorem hat_bd {w : World} {B : HB} {ls : List (List Int)} {σ : HS} (h : HpAt w B ls σ) {addr : Int} {k s : Nat} (e : hat σ addr = some (k, s)) : k < 64 ∧ s < 32 ∧ ∃ t, σ.M k s = some t := by
  obtain ⟨p, z, f, g, h1, h2, h3, h4, h5, h6, h7, h8, h9, h10, h11, h12, h13, h14, h15, h16, h17, h18, h19, h20, h21⟩ := hat_some h e
  exact ⟨h10, h11, Option.isSome_iff_exists.1 h21⟩
@[go_sem] theorem field_shape (w : World) (a b c : Int) : (Instr.field 118 (.agg #[.int .i64 a, .int .i64 b, .int .i64 c]) 0).run Tryd.prog w = .ok (.int .i64 a) w := by kernel_rfl
@[go_sem] theorem field_color (w : World) (a b c : Int) : (Instr.field 118 (.agg #[.int .i64 a, .int .i64 b, .int .i64 c]) 2).run Tryd.prog w = .ok (.int .i64 c) w := by kernel_rfl
theorem look_ext {w : World} {b : Nat} {M : Nat → Nat → Option Thing} (h : TMap w b M) {k s : Nat} {t : Thing} (hk : k < 64) (hs : s < 32) (ht : M k s = some t) (x : Ext w) :
    (Instr.lookup 114 (.map (some b)) (.agg #[.int .i64 k, .int .i64 s]) false).run Tryd.prog x.w = .ok (.agg #[.int .i64 t.1, .int .i64 t.2.1, .int .i64 t.2.2]) x.w := by
  have := (h.block (x.below.block _ h.lt)).look hk hs
  rw [ht] at this
  exact this
set_option maxRecDepth 100000 in
theorem color_any (B : HB) (ls : List (List Int)) (σ : HS) (addr : Int) (w : World) (h : HpAt w B ls σ) (ha : addr ≤ 9223372036854775807) :
    Calls Tryd.prog 72 #[.pointer (some ⟨B.b, 0, none⟩), .int .i64 addr] w fun e w' => e = .returned (.int .i64 (col σ addr)) ∧ Below w.heap.size w w' := by
  have H := Lib.hid h
  unfold col
  rcases hh : hat σ addr with _ | ⟨k, s⟩
  · have HH := Lib.hid hh
    clear h hh
    go_enter Tryd.func72, Tryd.ntmps72
    go_wp2_with fail
    refine (at_any B ls σ addr _ H.out ha).mono ?_
    rw [HH.out]
    rintro e w1 ⟨rfl, hb⟩
    have HB1 := Lib.hid hb
    clear hb
    dsimp only [atv]
    go_wp2_with fail
    go_ret
    exact ⟨rfl, fresh_alloc HB1.out _⟩
  · obtain ⟨hk, hs, t, ht⟩ := hat_bd h hh
    have HH := Lib.hid hh
    have HT := Lib.hid ht
    have HK := Lib.hid hk
    have HS2 := Lib.hid hs
    dsimp only
    rw [ht]
    clear h hh hk hs ht
    go_enter Tryd.func72, Tryd.ntmps72
    go_wp2_with fail
    refine (at_any B ls σ addr _ H.out ha).mono ?_
    rw [HH.out]
    rintro e w1 ⟨rfl, hb⟩
    have HB1 := Lib.hid (fresh_alloc hb (.cells #[.int .i64 k, .int .i64 s] 121))
    have hN := Blk.new w1 #[.int .i64 k, .int .i64 s] 121
    clear hb
    dsimp only [atv]
    go_wp2_with fail
    generalize w1.alloc (.cells #[.int .i64 k, .int .i64 s] 121) = W at *
    obtain ⟨bp, hbp⟩ : ∃ bp, w1.heap.size = bp := ⟨_, rfl⟩
    rw [hbp] at hN ⊢
    clear hbp
    have H2 := Lib.hid (H.out.call HB1.out)
    obtain ⟨d0, d1, -, -⟩ := hN.two
    obtain ⟨e0, e1, e2, e3, e4⟩ := H2.out.five
    have l0 := H2.out.blk.lt
    have l1 := hN.lt
    have hlk := look_ext H2.out.mp HK.out HS2.out HT.out
    clear hN
    refine Ext.region W (by kernel_rfl) (by kernel_rfl) (Below.refl _ _) ?_
    repeat (first | (go_big_quiet_step (fail)) | (rw [hlk]))
    refine wpQuiet_nil ?_
    rintro _ ⟨x, rfl⟩
    have HBX := Lib.hid (fresh_call HB1.out x.below)
    clear hlk
    go_wp2_with fail
    go_ret
    exact ⟨rfl, HBX.out⟩
/-- What is turned: an object of one color gets another one. -/
theorem turn_inv {w : World} {B : HB} {ls : List (List Int)} {σ : HS} (h : HpAt w B ls σ) {k s : Nat} {t u : Thing} (ht : σ.M k s = some t) (hu : u.1 = t.1) :
    (∀ i j, (put σ.M k s (some u) i j).isSome = true ↔ ∃ p, σ.ps[i]? = some (some p) ∧ p.U.testBit j = true) ∧
    (∀ i j v p, put σ.M k s (some u) i j = some v → σ.ps[i]? = some (some p) → ∃ l, ls[v.1.toNat]? = some l ∧ 0 ≤ v.1 ∧ Cls.cof l.length = p.c) := by
  constructor
  · intro i j
    rw [← h.inv i j]
    unfold put
    by_cases e : i = k ∧ j = s
    · obtain ⟨rfl, rfl⟩ := e
      rw [if_pos ⟨rfl, rfl⟩, ht]; rfl
    · rw [if_neg e]
  · intro i j v p hv hp
    unfold put at hv
    by_cases e : i = k ∧ j = s
    · obtain ⟨rfl, rfl⟩ := e
      rw [if_pos ⟨rfl, rfl⟩] at hv
      injection hv with hv
      subst hv
      rw [hu]
      exact h.fit _ _ t p ht hp
    · rw [if_neg e] at hv
      exact h.fit i j v p hv hp
set_option maxRecDepth 100000 in
theorem turn_no (B : HB) (ls : List (List Int)) (σ : HS) (addr c1 c2 : Int) (w : World) (h : HpAt w B ls σ) (ha : addr ≤ 9223372036854775807) (hn : ∀ k s t, hat σ addr = some (k, s) → σ.M k s = some t → t.2.2 ≠ c1) :
    Calls Tryd.prog 84 #[.pointer (some ⟨B.b, 0, none⟩), .int .i64 addr, .int .i64 c1, .int .i64 c2] w fun e w' => e = .returned (.bool false) ∧ Below w.heap.size w w' := by
  have H := Lib.hid h
  rcases hh : hat σ addr with _ | ⟨k, s⟩
  · have HH := Lib.hid hh
    clear h hh hn
    go_enter Tryd.func84, Tryd.ntmps84
    go_wp2_with fail
    refine (at_any B ls σ addr _ H.out ha).mono ?_
    rw [HH.out]
    rintro e w1 ⟨rfl, hb⟩
    have HB1 := Lib.hid (fresh_alloc hb (.cells #[.int .i64 0, .int .i64 0] 121))
    have hN := Blk.new w1 #[.int .i64 0, .int .i64 0] 121
    clear hb
    dsimp only [atv]
    go_wp2_with fail
    generalize w1.alloc (.cells #[.int .i64 0, .int .i64 0] 121) = W at *
    refine Ext.region W (by kernel_rfl) (by kernel_rfl) (Below.refl _ _) ?_
    repeat (first | (go_big_quiet_step (fail)))
    refine wpQuiet_nil ?_
    rintro _ ⟨x, rfl⟩
    have HBX := Lib.hid (fresh_call HB1.out x.below)
    go_wp2_with fail
    go_ret
    exact ⟨rfl, HBX.out⟩
  · obtain ⟨hk, hs, t, ht⟩ := hat_bd h hh
    have hne : (t.2.2 != c1) = true := by simpa using hn k s t hh ht
    have HH := Lib.hid hh
    have HT := Lib.hid ht
    have HK := Lib.hid hk
    have HS2 := Lib.hid hs
    clear h hh hk hs ht hn
    go_enter Tryd.func84, Tryd.ntmps84
    go_wp2_with fail
    refine (at_any B ls σ addr _ H.out ha).mono ?_
    rw [HH.out]
    rintro e w1 ⟨rfl, hb⟩
    have HB1 := Lib.hid (fresh_alloc hb (.cells #[.int .i64 k, .int .i64 s] 121))
    have hN := Blk.new w1 #[.int .i64 k, .int .i64 s] 121
    clear hb
    dsimp only [atv]
    go_wp2_with fail
    generalize w1.alloc (.cells #[.int .i64 k, .int .i64 s] 121) = W at *
    obtain ⟨bp, hbp⟩ : ∃ bp, w1.heap.size = bp := ⟨_, rfl⟩
    rw [hbp] at hN ⊢
    clear hbp
    have H2 := Lib.hid (H.out.call HB1.out)
    obtain ⟨d0, d1, -, -⟩ := hN.two
    obtain ⟨e0, e1, e2, e3, e4⟩ := H2.out.five
    have l0 := H2.out.blk.lt
    have l1 := hN.lt
    have hlk := look_ext H2.out.mp HK.out HS2.out HT.out
    clear hN
    refine Ext.region W (by kernel_rfl) (by kernel_rfl) (Below.refl _ _) ?_
    repeat (first | (go_big_quiet_step (fail)) | (rw [hlk]))
    refine wpQuiet_nil ?_
    rintro _ ⟨x, rfl⟩
    have HBX := Lib.hid (fresh_call HB1.out x.below)
    clear hlk
    go_wp2_with fail
    go_ret
    exact ⟨rfl, HBX.out⟩
set_option maxRecDepth 100000 in
theorem turn_yes (B : HB) (ls : List (List Int)) (σ : HS) (addr c1 c2 : Int) (k s : Nat) (t : Thing) (w : World) (h : HpAt w B ls σ) (ha : addr ≤ 9223372036854775807) (hh : hat σ addr = some (k, s)) (ht : σ.M k s = some t) (hc : t.2.2 = c1) :
    Calls Tryd.prog 84 #[.pointer (some ⟨B.b, 0, none⟩), .int .i64 addr, .int .i64 c1, .int .i64 c2] w fun e w' => e = .returned (.bool true) ∧ HpAt w' B ls { σ with M := put σ.M k s (some (t.1, t.2.1, c2)) } ∧ Kept (fun i => i = B.bm) w w' := by
  have H := Lib.hid h
  obtain ⟨hk, hs, -⟩ := hat_bd h hh
  have HI := Lib.hid (turn_inv h ht (u := (t.1, t.2.1, c2)) rfl)
  subst hc
  have HH := Lib.hid hh
  have HT := Lib.hid ht
  have HK := Lib.hid hk
  have HS2 := Lib.hid hs
  clear h hh hk hs ht
  go_enter Tryd.func84, Tryd.ntmps84
  go_wp2_with fail
  refine (at_any B ls σ addr _ H.out ha).mono ?_
  rw [HH.out]
  rintro e w1 ⟨rfl, hb⟩
  have HB1 := Lib.hid (fresh_alloc hb (.cells #[.int .i64 k, .int .i64 s] 121))
  have hN := Blk.new w1 #[.int .i64 k, .int .i64 s] 121
  clear hb
  dsimp only [atv]
  go_wp2_with fail
  generalize w1.alloc (.cells #[.int .i64 k, .int .i64 s] 121) = W at *
  obtain ⟨bp, hbp⟩ : ∃ bp, w1.heap.size = bp := ⟨_, rfl⟩
  rw [hbp] at hN ⊢
  clear hbp
  have H2 := Lib.hid (H.out.call HB1.out)
  have HN := Lib.hid hN
  obtain ⟨d0, d1, -, -⟩ := hN.two
  obtain ⟨e0, e1, e2, e3, e4⟩ := H2.out.five
  have l0 := H2.out.blk.lt
  have l1 := hN.lt
  have hlk := look_ext H2.out.mp HK.out HS2.out HT.out
  clear hN
  refine Ext.region W (by kernel_rfl) (by kernel_rfl) (Below.refl _ _) ?_
  repeat (first | (go_big_quiet_step (fail)) | (rw [hlk]))
  refine wpQuiet_nil ?_
  rintro _ ⟨x, rfl⟩
  have HBX := Lib.hid (fresh_call HB1.out x.below)
  have H3 := Lib.hid (H2.out.call x.below)
  have HN3 := Lib.hid (HN.out.call x.below)
  clear hlk d0 d1 e0 e1 e2 e3 e4 l0 l1
  generalize x.w = W3 at *
  obtain ⟨d0, d1, -, -⟩ := HN3.out.two
  obtain ⟨e0, e1, e2, e3, e4⟩ := H3.out.five
  have l0 := H3.out.blk.lt
  have l1 := HN3.out.lt
  go_wp2_with fail
  go_upto_region 4 with (fail)
  go_cut [11] from 31 to 36 (fun p wx => ∃ bt, p = .pointer (some ⟨bt, 0, none⟩) ∧ W3.heap.size ≤ bt ∧ Blk wx bt #[.int .i64 t.1, .int .i64 t.2.1, .int .i64 t.2.2] 118 ∧ Below W3.heap.size W3 wx)
  case first =>
    have hl1 := look_ext H3.out.mp HK.out HS2.out HT.out ⟨W3.drew, (Below.refl _ _).drew⟩
    have hl2 := look_ext H3.out.mp HK.out HS2.out HT.out ⟨(W3.alloc (.cells #[.int .i64 0, .int .i64 0, .int .i64 0] 118)).drew, (fresh_alloc (Below.refl _ _) _).drew⟩
    dsimp only at hl1 hl2
    go_region_with (fail)
    all_goals
      go_wp2_with fail
      go_meet
      exact ⟨W3.heap.size, rfl, Nat.le_refl _, Blk.new W3 _ _, (fresh_alloc (Below.refl _ _) _).drew⟩
  case rest =>
    obtain ⟨bt, rfl, hbt, hbl, hbe⟩ := hcut
    have H4 := Lib.hid (H3.out.call hbe)
    have HN4 := Lib.hid (HN3.out.call hbe)
    have HT4 := Lib.hid hbl
    have HBY := Lib.hid (fresh_call HBX.out hbe)
    have l2 := hbl.lt
    have l3 := hbe.size
    obtain ⟨t0, t1, t2, tf0, tf1, tf2⟩ := hbl.three
    clear hbl hbe d0 d1 e0 e1 e2 e3 e4 H3 HN3 H2 HN
    have hz : w.heap.size ≤ bt := by have := HBX.out.size; omega
    have hbp : bp < bt := by omega
    clear l0 l1
    go_wp2_with fail
    have h5b := Blk.of_eq (HT4.out.set 2 (.int .i64 c2)) (cs' := #[.int .i64 t.1, .int .i64 t.2.1, .int .i64 c2]) rfl
    have h5 : Below w.heap.size w (wc.setCell ⟨bt, 2, none⟩ (.int .i64 c2)) := HBY.out.setCell (p := ⟨bt, 2, none⟩) hz _
    have hk : ∀ i, i < bt → (wc.setCell ⟨bt, 2, none⟩ (.int .i64 c2)).heap[i]? = wc.heap[i]? := fun i hi => Below.heap_setCell wc ⟨bt, 2, none⟩ _ i (by simp; omega)
    have H5 := Lib.hid (H.out.call h5)
    have HN5 := Lib.hid (show Blk (wc.setCell ⟨bt, 2, none⟩ (.int .i64 c2)) bp #[.int .i64 k, .int .i64 s] 121 from (hk bp hbp).trans HN4.out)
    have HT5 := Lib.hid h5b
    have HB5 := Lib.hid h5
    clear h5b h5 hk H4 HN4 HT4 HBY t0 t1 t2 tf0 tf1 tf2 l2
    generalize wc.setCell ⟨bt, 2, none⟩ (.int .i64 c2) = W5 at *
    obtain ⟨d0, d1, -, -⟩ := HN5.out.two
    obtain ⟨t0, t1, t2, -, -, -⟩ := HT5.out.three
    obtain ⟨e0, e1, e2, e3, e4⟩ := H5.out.five
    go_still_tail 6, (by kernel_rfl)
    change wpList _ _ _ _ _ W5.drew
    have H6 := Lib.hid (show HpAt W5.drew B ls σ from H5.out.drewN 1)
    have HB6 := Lib.hid (show Below w.heap.size w W5.drew from HB5.out.drew)
    clear d0 d1 t0 t1 t2 e0 e1 e2 e3 e4 H5 HN5 HT5
    generalize W5.drew = W6 at *
    go_wp2_with (first
      | (at_mapUpdate; refine wpList_put rfl _ _ _ rfl (k := k) (s := s) (t.1, t.2.1, c2) rfl rfl rfl H6.out.mp HK.out HS2.out ?_; intro w7 hm7 hg7)
      | fail)
    go_ret
    exact ⟨rfl, H6.out.mapped hm7 hg7 HI.out.1 HI.out.2, (Kept.of_below HB6.out (fun i => i = B.bm)).step (Kept.of_grown hg7) (fun i _ e => Option.some.inj e)⟩
end Go.Proofs.YtfgpadkoonogpaaDoor.Hp

namespace Go.Proofs.YtfgpadkoonogpaaDoor.Hp
open Go.RowKit Pg Ar Tm
set_option linter.unusedSimpArgs false
set_option linter.unusedVariables false

theorem shade_no (B : HB) (ls : List (List Int)) (σ : HS) (addr : Int) (w : World) (h : HpAt w B ls σ) (ha : addr ≤ 9223372036854775807) (hn : ∀ k s t, hat σ addr = some (k, s) → σ.M k s = some t → t.2.2 ≠ 0) :
    Calls Tryd.prog 41 #[.pointer (some ⟨B.b, 0, none⟩), .int .i64 addr] w fun e w' => e = .returned (.bool false) ∧ Below w.heap.size w w' := by
  have H := Lib.hid (turn_no B ls σ addr 0 1 w h ha hn)
  clear h hn
  go_enter Tryd.func41, Tryd.ntmps41
  go_wp2_with fail
  refine H.out.mono ?_
  rintro e w1 ⟨rfl, hb⟩
  dsimp only
  go_wp2_with fail
  go_ret
  exact ⟨rfl, hb⟩
theorem shade_yes (B : HB) (ls : List (List Int)) (σ : HS) (addr : Int) (k s : Nat) (t : Thing) (w : World) (h : HpAt w B ls σ) (ha : addr ≤ 9223372036854775807) (hh : hat σ addr = some (k, s)) (ht : σ.M k s = some t) (hc : t.2.2 = 0) :
    Calls Tryd.prog 41 #[.pointer (some ⟨B.b, 0, none⟩), .int .i64 addr] w fun e w' => e = .returned (.bool true) ∧ HpAt w' B ls { σ with M := put σ.M k s (some (t.1, t.2.1, 1)) } ∧ Kept (fun i => i = B.bm) w w' := by
  have H := Lib.hid (turn_yes B ls σ addr 0 1 k s t w h ha hh ht hc)
  clear h hh ht hc
  go_enter Tryd.func41, Tryd.ntmps41
  go_wp2_with fail
  refine H.out.mono ?_
  rintro e w1 ⟨rfl, h1, hb⟩
  have H1 := Lib.hid h1
  have HB1 := Lib.hid hb
  clear h1 hb
  dsimp only
  go_wp2_with fail
  go_ret
  exact ⟨rfl, H1.out, HB1.out⟩
/-- How many fields an object has. -/
def nfl (ls : List (List Int)) (σ : HS) (k s : Nat) : Nat := (ls.getD ((σ.M k s).getD (0, 0, 0)).1.toNat []).length
/-- Has an object that field? -/
def hasF (ls : List (List Int)) (σ : HS) (addr f : Int) : Bool := match hat σ addr with | none => false | some (k, s) => decide (0 ≤ f) && decide (f < (nfl ls σ k s : Int))
theorem nfl_is {w : World} {B : HB} {ls : List (List Int)} {σ : HS} (h : HpAt w B ls σ) {k s : Nat} {p : PM} {t : Thing} (ht : σ.M k s = some t) (hp : σ.ps[k]? = some (some p)) :
    ∃ (j : Nat) (l : List Int), t.1 = (j : Int) ∧ ls[j]? = some l ∧ nfl ls σ k s = l.length ∧ 1 ≤ l.length ∧ (l.length : Int) ≤ Cls.csz p.c := by
  obtain ⟨l, hl, h0, hc⟩ := h.fit k s t p ht hp
  have hlen := h.len l (List.mem_of_getElem? hl)
  refine ⟨t.1.toNat, l, by omega, hl, ?_, hlen.1, ?_⟩
  · unfold nfl
    rw [ht]
    simp [List.getD, hl]
  · have := (Cls.cof_csz (n := (l.length : Int)) (by omega)).2
    rwa [hc] at this
theorem rs_at {w : World} {B n c : Nat} {A : Option Addr} {ls : List (List Int)} (h : Shp.RS w B A n c ls) {j : Nat} {l : List Int} (hl : ls[j]? = some l) : ∃ b off A' c', A = some ⟨b, off, none⟩ ∧ b < B ∧ w.cell? ⟨b, off + j, none⟩ = some (.slice A' l.length c') := by
  obtain ⟨b, off, A', c', h1, h2, h3, _⟩ := h.2.2.2 j l hl
  exact ⟨b, off, A', c', h1, h2, h3⟩
set_option maxRecDepth 100000 in
theorem field_any (B : HB) (ls : List (List Int)) (σ : HS) (addr f : Int) (w : World) (h : HpAt w B ls σ) (ha : addr ≤ 9223372036854775807) :
    Calls Tryd.prog 101 #[.pointer (some ⟨B.b, 0, none⟩), .int .i64 addr, .int .i64 f] w fun e w' => e = .returned (.bool (hasF ls σ addr f)) ∧ Below w.heap.size w w' := by
  have H := Lib.hid h
  unfold hasF
  rcases hh : hat σ addr with _ | ⟨k, s⟩
  · have HH := Lib.hid hh
    clear h hh
    go_enter Tryd.func101, Tryd.ntmps101
    go_wp2_with fail
    refine (at_any B ls σ addr _ H.out ha).mono ?_
    rw [HH.out]
    rintro e w1 ⟨rfl, hb⟩
    have HB1 := Lib.hid (fresh_alloc hb (.cells #[.int .i64 0, .int .i64 0] 121))
    clear hb
    dsimp only [atv]
    go_wp2_with fail
    generalize w1.alloc (.cells #[.int .i64 0, .int .i64 0] 121) = W at *
    refine Ext.region W (by kernel_rfl) (by kernel_rfl) (Below.refl _ _) ?_
    repeat (first | (go_big_quiet_step (fail)))
    refine wpQuiet_nil ?_
    rintro _ ⟨x, rfl⟩
    have HBX := Lib.hid (fresh_call HB1.out x.below)
    go_wp2_with fail
    go_ret
    exact ⟨rfl, HBX.out⟩
  · obtain ⟨p, z, f', g, h1, h2, h3, h4, h5, h6, h7, h8, h9, h10, h11, h12, h13, h14, h15, h16, h17, h18, h19, h20, h21⟩ := hat_some h hh
    obtain ⟨t, ht⟩ := Option.isSome_iff_exists.1 h21
    obtain ⟨j, l, hj, hl, hn, hl1, hl2⟩ := nfl_is h ht h3
    dsimp only
    rw [hn]
    have HH := Lib.hid hh
    have HT := Lib.hid ht
    have HK := Lib.hid h10
    have HS2 := Lib.hid h11
    have HJ := Lib.hid hj
    have HL := Lib.hid hl
    have hjl : j < ls.length := (List.getElem?_eq_some_iff.1 hl).1
    have hjl2 : (j : Int) < (ls.length : Int) := by omega
    have hj0 : (0 : Int) ≤ (j : Int) := by omega
    clear h h1 h2 h3 h4 h5 h6 h7 h8 h9 h10 h11 h12 h13 h14 h15 h16 h17 h18 h19 h20 h21 hh ht hj hl hn hl1 hl2
    by_cases hf : 0 ≤ f
    · have hd0 : decide (0 ≤ f) = true := by simpa using hf
      rw [hd0, Bool.true_and]
      go_enter Tryd.func101, Tryd.ntmps101
      go_wp2_with fail
      refine (at_any B ls σ addr _ H.out ha).mono ?_
      rw [HH.out]
      rintro e w1 ⟨rfl, hb⟩
      have HB1 := Lib.hid (fresh_alloc hb (.cells #[.int .i64 k, .int .i64 s] 121))
      have hN := Blk.new w1 #[.int .i64 k, .int .i64 s] 121
      clear hb
      dsimp only [atv]
      go_wp2_with fail
      generalize w1.alloc (.cells #[.int .i64 k, .int .i64 s] 121) = W at *
      obtain ⟨bp, hbp⟩ : ∃ bp, w1.heap.size = bp := ⟨_, rfl⟩
      rw [hbp] at hN ⊢
      clear hbp
      have H2 := Lib.hid (H.out.call HB1.out)
      obtain ⟨d0, d1, -, -⟩ := hN.two
      obtain ⟨e0, e1, e2, e3, e4⟩ := H2.out.five
      have l0 := H2.out.blk.lt
      have l1 := hN.lt
      have hlk := look_ext H2.out.mp HK.out HS2.out HT.out
      rw [HJ.out] at hlk
      obtain ⟨sb, off, A', c', hSA, hsb, hsc⟩ := rs_at H2.out.sh HL.out
      rw [hSA] at e1
      have hsz : sb < W.heap.size := by have := H2.out.z_lt; omega
      clear hN hSA
      refine Ext.region W (by kernel_rfl) (by kernel_rfl) (Below.refl _ _) ?_
      repeat (first | (go_big_quiet_step (fail)) | (rw [hlk]) | (rw [hd0]))
      refine wpQuiet_nil ?_
      rintro _ ⟨x, rfl⟩
      have HBX := Lib.hid (fresh_call HB1.out x.below)
      clear hlk
      go_wp2_with fail
      go_ret
      exact ⟨rfl, HBX.out⟩
    · have hd0 : decide (0 ≤ f) = false := by simpa using hf
      rw [hd0, Bool.false_and]
      go_enter Tryd.func101, Tryd.ntmps101
      go_wp2_with fail
      refine (at_any B ls σ addr _ H.out ha).mono ?_
      rw [HH.out]
      rintro e w1 ⟨rfl, hb⟩
      have HB1 := Lib.hid (fresh_alloc hb (.cells #[.int .i64 k, .int .i64 s] 121))
      have hN := Blk.new w1 #[.int .i64 k, .int .i64 s] 121
      clear hb
      dsimp only [atv]
      go_wp2_with fail
      generalize w1.alloc (.cells #[.int .i64 k, .int .i64 s] 121) = W at *
      obtain ⟨bp, hbp⟩ : ∃ bp, w1.heap.size = bp := ⟨_, rfl⟩
      rw [hbp] at hN ⊢
      clear hbp
      have H2 := Lib.hid (H.out.call HB1.out)
      obtain ⟨d0, d1, -, -⟩ := hN.two
      obtain ⟨e0, e1, e2, e3, e4⟩ := H2.out.five
      have l0 := H2.out.blk.lt
      have l1 := hN.lt
      have hlk := look_ext H2.out.mp HK.out HS2.out HT.out
      rw [HJ.out] at hlk
      obtain ⟨sb, off, A', c', hSA, hsb, hsc⟩ := rs_at H2.out.sh HL.out
      rw [hSA] at e1
      have hsz : sb < W.heap.size := by have := H2.out.z_lt; omega
      clear hN hSA
      refine Ext.region W (by kernel_rfl) (by kernel_rfl) (Below.refl _ _) ?_
      repeat (first | (go_big_quiet_step (fail)) | (rw [hlk]) | (rw [hd0]))
      refine wpQuiet_nil ?_
      rintro _ ⟨x, rfl⟩
      have HBX := Lib.hid (fresh_call HB1.out x.below)
      clear hlk
      go_wp2_with fail
      go_ret
      exact ⟨rfl, HBX.out⟩
end Go.Proofs.YtfgpadkoonogpaaDoor.Hp

namespace Go.Proofs.YtfgpadkoonogpaaDoor.Hp
open Go.RowKit Pg Ar Tm
set_option linter.unusedSimpArgs false
set_option linter.unusedVariables false

theorem slot_inside {w : World} {B : HB} {ls : List (List Int)} {σ : HS} (h : HpAt w B ls σ) {addr : Int} {k s : Nat} (e : hat σ addr = some (k, s)) :
    ∃ (p : PM) (z : Nat), σ.ps[k]? = some (some p) ∧ Cls.csz p.c = (z : Int) ∧ addr = ((1048576 + 32 * k + s * z : Nat) : Int) ∧ k < 64 ∧ 32 * k + s * z + z ≤ σ.ws.length ∧ ∀ f : Nat, f < z → slot σ.ps (addr + f) = some (k, p, s) := by
  obtain ⟨p, z, f0, g, h1, h2, h3, h4, h5, h6, h7, h8, h9, h10, h11, h12, h13, h14, h15, h16, h17, h18, h19, h20, h21⟩ := hat_some h e
  have hpg := h.ar.page _ p h3
  have hfit := fit (c := p.c) (n := p.n) (s := s) hpg.2 h6 h5
  have hk := (List.getElem?_eq_some_iff.1 h3).1
  have hw := h.ar.hw
  refine ⟨p, z, h3, h6, by omega, h10, by omega, fun f hf => ?_⟩
  have hx : addr + f - 1048576 = ((32 * k + (g + f) : Nat) : Int) := by omega
  have hd : ((32 * k + (g + f) : Nat) : Int) / 32 = (k : Int) := by omega
  have hm : ((32 * k + (g + f) : Nat) : Int) % 32 = ((g + f : Nat) : Int) := by omega
  have hq : ((g + f : Nat) : Int) / (z : Int) = (s : Int) := by
    rw [← Int.natCast_ediv, h12, Nat.mul_comm, Nat.mul_add_div (by omega), Nat.div_eq_of_lt hf, Nat.add_zero]
  have hlt : ((g + f : Nat) : Int) < Cls.csl p.c * Cls.csz p.c := by
    rw [hpg.2, h6, ← Int.natCast_mul]
    apply Int.ofNat_lt.2
    have : (s + 1) * z ≤ p.n * z := Nat.mul_le_mul_right z h5
    rw [Nat.add_mul] at this
    omega
  unfold slot
  rw [if_neg (by omega), hx, hd, h9]
  dsimp only
  rw [hm, h6, hq, at_nat, h4, if_pos ⟨by rw [← h6]; exact hlt, rfl⟩]
  simp
theorem hasF_yes {w : World} {B : HB} {ls : List (List Int)} {σ : HS} (h : HpAt w B ls σ) {addr f : Int} (e : hasF ls σ addr f = true) :
    ∃ (k s n : Nat) (p : PM), f = (n : Int) ∧ hat σ addr = some (k, s) ∧ n < nfl ls σ k s ∧ slot σ.ps (addr + n) = some (k, p, s) ∧ σ.ps[k]? = some (some p) ∧ 1048576 ≤ addr ∧ addr + n < 1048576 + 2048 ∧ (addr + n - 1048576).toNat < σ.ws.length := by
  unfold hasF at e
  rcases hh : hat σ addr with _ | ⟨k, s⟩
  · rw [hh] at e; cases e
  rw [hh] at e
  dsimp only at e
  have e := Bool.and_eq_true_iff.1 e
  have e1 := of_decide_eq_true e.1
  have e2 := of_decide_eq_true e.2
  obtain ⟨p, z, h1, h2, h3, h4, h5, h6⟩ := slot_inside h hh
  obtain ⟨-, -, t, ht⟩ := hat_bd h hh
  obtain ⟨j, l, q1, q2, q3, q4, q5⟩ := nfl_is h ht h1
  have hw := h.ar.hw
  have hn := h.ar.hn
  exact ⟨k, s, f.toNat, p, by omega, rfl, by omega, h6 _ (by omega), h1, by omega, by omega, by omega⟩
/-- What Load tells. -/
def hfw (ls : List (List Int)) (σ : HS) (addr f : Int) : Int := if hasF ls σ addr f = true then σ.ws.getD (addr + f - 1048576).toNat 0 else 0
theorem hstore_no (B : HB) (ls : List (List Int)) (σ : HS) (addr f v : Int) (w : World) (h : HpAt w B ls σ) (ha : addr ≤ 9223372036854775807) (hh : hasF ls σ addr f = false) :
    Calls Tryd.prog 81 #[.pointer (some ⟨B.b, 0, none⟩), .int .i64 addr, .int .i64 f, .int .i64 v] w fun e w' => e = .returned (.bool false) ∧ Below w.heap.size w w' := by
  have HF := Lib.hid (field_any B ls σ addr f w h ha)
  rw [hh] at HF
  clear h hh
  go_enter Tryd.func81, Tryd.ntmps81
  go_wp2_with fail
  refine HF.out.mono ?_
  rintro e w1 ⟨rfl, hb⟩
  have HB1 := Lib.hid hb
  clear hb
  dsimp only
  go_wp2_with fail
  go_ret
  exact ⟨rfl, HB1.out⟩
theorem hstore_yes (B : HB) (ls : List (List Int)) (σ : HS) (addr f v : Int) (w : World) (h : HpAt w B ls σ) (ha : addr ≤ 9223372036854775807) (hh : hasF ls σ addr f = true) :
    Calls Tryd.prog 81 #[.pointer (some ⟨B.b, 0, none⟩), .int .i64 addr, .int .i64 f, .int .i64 v] w fun e w' => e = .returned (.bool true) ∧ HpAt w' B ls { σ with ws := σ.ws.set (addr + f - 1048576).toNat v } ∧ Kept (fun i => i = B.gw) w w' := by
  have H := Lib.hid h
  have HF := Lib.hid (field_any B ls σ addr f w h ha)
  rw [hh] at HF
  obtain ⟨k, s, n, p, rfl, h1, h2, h3, h4, h5, h6, h7⟩ := hasF_yes h hh
  have HS1 := Lib.hid (show (slot σ.ps (addr + n)).isSome = true by rw [h3]; rfl)
  have hx : wrap64 (addr + n) = addr + n := wrap64_id (by omega)
  have hlim : addr + n ≤ 9223372036854775807 := by omega
  clear h hh h1 h2 h3 h4 h5 h6 h7
  go_enter Tryd.func81, Tryd.ntmps81
  go_wp2_with fail
  refine HF.out.mono ?_
  rintro e w1 ⟨rfl, hb⟩
  have H1 := Lib.hid (H.out.call hb)
  have HB1 := Lib.hid hb
  obtain ⟨e0, e1, e2, e3, e4⟩ := H1.out.five
  clear hb
  dsimp only
  go_wp2_with (simp only [hx])
  refine (Ar.store_yes _ _ _ _ _ (addr + n) v _ H1.out.ar hlim HS1.out).mono ?_
  rintro e w2 ⟨rfl, ha2, hk2⟩
  have HA := Lib.hid ha2
  have HK := Lib.hid hk2
  clear ha2 hk2
  dsimp only
  go_wp2_with fail
  go_ret
  exact ⟨rfl, H1.out.arena HA.out HK.out (fun i hi => .inl (.inr (.inr (.inl hi)))) (fun i hi => .inl hi) H.out.inv H.out.fit, (Kept.of_below HB1.out (fun i => i = B.gw)).step HK.out (fun i _ e => e)⟩
end Go.Proofs.YtfgpadkoonogpaaDoor.Hp

namespace Go.Proofs.YtfgpadkoonogpaaDoor.Hp
open Go.RowKit Pg Ar Tm
set_option linter.unusedSimpArgs false
set_option linter.unusedVariables false

/-- The state behind an object made. -/
def made (σ : HS) (k : Nat) (p : PM) (s z : Nat) (sh n : Nat) (bl : Bool) : HS :=
  { ps := σ.ps.set k (some ⟨p.b, p.c, p.n, ins p.U s, del p.M s⟩), ws := clr σ.ws (32 * k + s * z) z, M := put σ.M k s (some ((sh : Int), σ.sr + 1, if bl then 2 else 0)), sr := σ.sr + 1, gv := σ.gv + (n : Int) }
def Al (B : HB) (ls : List (List Int)) (σ : HS) (sh n : Nat) (bl : Bool) (w : World) (e : Ending) (w' : World) : Prop :=
  (e = .returned (.tuple #[.int .i64 0, .int .i64 5]) ∧ Full σ.ps (Cls.cof n) σ.ps.length ∧ HpAt w' B ls σ ∧ Below w.heap.size w w') ∨
  (∃ (k : Nat) (p : PM) (s z : Nat), e = .returned (.tuple #[.int .i64 (1048576 + 32 * k + s * z : Nat), .int .i64 0]) ∧ Full σ.ps (Cls.cof n) k ∧ σ.ps[k]? = some (some p) ∧ p.c = Cls.cof n ∧ Cls.csz p.c = z ∧ s < p.n ∧ p.U.testBit s = false ∧ (∀ i, i < s → p.U.testBit i = true) ∧
    HpAt w' B ls (made σ k p s z sh n bl) ∧ Kept (fun i => i = B.b ∨ i = p.b ∨ i = B.gw ∨ i = B.bm) w w')
theorem made_inv {w : World} {B : HB} {ls : List (List Int)} {σ : HS} (h : HpAt w B ls σ) {k : Nat} {p : PM} (hk : σ.ps[k]? = some (some p)) {s z sh : Nat} {l : List Int} {bl : Bool} (hl : ls[sh]? = some l) (hc : p.c = Cls.cof l.length) (hs : p.U.testBit s = false) :
    (∀ i j, ((made σ k p s z sh l.length bl).M i j).isSome = true ↔ ∃ q, (made σ k p s z sh l.length bl).ps[i]? = some (some q) ∧ q.U.testBit j = true) ∧
    (∀ i j t q, (made σ k p s z sh l.length bl).M i j = some t → (made σ k p s z sh l.length bl).ps[i]? = some (some q) → ∃ l', ls[t.1.toNat]? = some l' ∧ 0 ≤ t.1 ∧ Cls.cof l'.length = q.c) := by
  unfold made
  dsimp only
  have hlt := (List.getElem?_eq_some_iff.1 hk).1
  constructor
  · intro i j
    unfold put
    by_cases hi : i = k
    · subst hi
      by_cases hj : j = s
      · subst hj
        rw [if_pos ⟨rfl, rfl⟩]
        simp only [Option.isSome_some, true_iff]
        exact ⟨_, List.getElem?_set_self hlt, by rw [ins_bit]; simp⟩
      · rw [if_neg (fun e => hj e.2), h.inv i j]
        constructor
        · rintro ⟨q, hq, hb⟩
          rw [hk] at hq
          have hq := Option.some.inj (Option.some.inj hq)
          subst hq
          exact ⟨_, List.getElem?_set_self hlt, by rw [ins_bit, hb]; rfl⟩
        · rintro ⟨q, hq, hb⟩
          rw [List.getElem?_set_self hlt] at hq
          have hq := Option.some.inj (Option.some.inj hq)
          subst hq
          rw [ins_bit] at hb
          have hne : ¬ s = j := fun e => hj e.symm
          simp [hne] at hb
          exact ⟨p, hk, hb⟩
    · rw [if_neg (fun e => hi e.1), h.inv i j, List.getElem?_set_ne (fun e => hi e.symm)]
  · intro i j t q ht hq
    unfold put at ht
    by_cases hi : i = k
    · subst hi
      rw [List.getElem?_set_self hlt] at hq
      have hq := Option.some.inj (Option.some.inj hq)
      subst hq
      dsimp only
      by_cases hj : j = s
      · subst hj
        rw [if_pos ⟨rfl, rfl⟩] at ht
        have ht := Option.some.inj ht
        subst ht
        exact ⟨l, by simpa using hl, by simp, hc.symm⟩
      · rw [if_neg (fun e => hj e.2)] at ht
        exact h.fit i j t p ht hk
    · rw [if_neg (fun e => hi e.1)] at ht
      rw [List.getElem?_set_ne (fun e => hi e.symm)] at hq
      exact h.fit i j t q ht hq
theorem took_shape {b gp gw : Nat} {ps : List (Option PM)} {ws : List Int} {c : Int} {w w' : World} {e : Ending} (h : Took b gp gw ps ws c w e w') : ∃ (x : Int) (y : Bool), e = .returned (.tuple #[.int .i64 x, .bool y]) := by
  rcases h with ⟨he, _⟩ | ⟨k, p, s, z, he, _⟩
  · exact ⟨_, _, he⟩
  · exact ⟨_, _, he⟩
set_option maxRecDepth 100000 in
set_option maxHeartbeats 1000000 in
theorem alloc_any (B : HB) (ls : List (List Int)) (σ : HS) (sh : Nat) (l : List Int) (bl : Bool) (w : World) (h : HpAt w B ls σ) (hT : Tab w) (hfoot : ¬ Foot B.ba B.gp B.gw σ.ps 0) (hl : ls[sh]? = some l)
    (hsr : 0 ≤ σ.sr ∧ σ.sr ≤ 4611686018427387904) (hgv : 0 ≤ σ.gv ∧ σ.gv ≤ 4611686018427387904) :
    Calls Tryd.prog 28 #[.pointer (some ⟨B.b, 0, none⟩), .int .i64 sh, .bool bl] w (Al B ls σ sh l.length bl w) := by
  have H := Lib.hid h
  have HT := Lib.hid hT
  have HFT := Lib.hid hfoot
  have HL := Lib.hid hl
  have hjl : sh < ls.length := (List.getElem?_eq_some_iff.1 hl).1
  have hj0 : (0 : Int) ≤ (sh : Int) := by omega
  have hd1 : decide ((sh : Int) < 0) = false := by simp
  have hd2 : decide (ls.length ≤ sh) = false := by simp; omega
  have hj2 : (sh : Int) < (ls.length : Int) := by omega
  obtain ⟨e0, e1, e2, e3, e4⟩ := h.five
  obtain ⟨sb, off, A', c', hSA, hsb, hsc⟩ := rs_at h.sh hl
  have HSA := Lib.hid hSA
  rw [hSA] at e1
  have hlen := h.len l (List.mem_of_getElem? hl)
  clear h hT hfoot hl hSA
  go_enter Tryd.func28, Tryd.ntmps28
  go_wp2_with fail
  refine (none_any B ls σ _ H.out).mono ?_
  rintro e w1 ⟨rfl, rfl⟩
  dsimp only
  go_wp2_with fail
  go_upto_region 6 with (fail)
  go_cut [9, 10] from 40 to 48 (fun a b wx => ∃ (x : Int) (y : Bool) (w0 : World), a = .int .i64 x ∧ b = .bool y ∧ Below w.heap.size w w0 ∧ Took B.ba B.gp B.gw σ.ps σ.ws (Cls.cof l.length) w0 (.returned (.tuple #[.int .i64 x, .bool y])) wx)
  case first =>
    have HTK := Lib.hid (take_any B.ba B.gp B.gw σ.ps σ.ws (Cls.cof l.length) w.drew (H.out.drewN 1).ar HT.out HFT.out)
    go_region_with (first
      | (go_at_call 75; refine (Cls.of_any _ _).mono ?_; rintro e w1 ⟨rfl, rfl⟩; dsimp only)
      | (go_at_call 10; refine HTK.out.mono ?_; intro e w2 ht2; obtain ⟨x, y, rfl⟩ := took_shape ht2; have HT2 := Lib.hid ht2; clear ht2; dsimp only))
    all_goals
      simp only [List.getElem_toArray, List.getElem_cons_succ, List.getElem_cons_zero]
      go_wp2_with fail
      go_frame
      go_meet
      exact ⟨_, _, w.drew, rfl, rfl, (Below.refl _ _).drew, HT2.out⟩
  case rest =>
    obtain ⟨x, y, w0, rfl, rfl, hb0, htk⟩ := hcut
    clear e0 e1 e2 e3 e4 hsc HT HFT
    rcases htk with ⟨he, hF, rfl⟩ | ⟨k, p, s, z, he, hF, hk, hc, hz, hs, hU, hall, ha, hK⟩
    · simp at he
      obtain ⟨rfl, rfl⟩ := he
      have HF := Lib.hid hF
      have HB0 := Lib.hid hb0
      clear hF hb0
      go_wp2_with fail
      go_ret2
      exact Or.inl ⟨rfl, HF.out, H.out.call HB0.out, HB0.out⟩
    · obtain ⟨A, hA⟩ : ∃ A : Int, ((1048576 + 32 * k + s * z : Nat) : Int) = A := ⟨_, rfl⟩
      rw [hA] at he
      simp only [Ending.returned.injEq, Value.tuple.injEq] at he
      simp at he
      obtain ⟨rfl, rfl⟩ := he
      have H0 := Lib.hid (H.out.call hb0)
      have hpg := H0.out.ar.page k p hk
      have hfit := fit (c := p.c) (n := p.n) (s := s) hpg.2 (by rw [hc]; exact hz) hs
      have hkl := (List.getElem?_eq_some_iff.1 hk).1
      have hn64 := H0.out.ar.hn
      have hkk : k < 64 := by omega
      have hss : s < 32 := by have := hpg.1.hn; omega
      obtain ⟨g, hg⟩ : ∃ g, s * z = g := ⟨_, rfl⟩
      obtain ⟨f, hf⟩ : ∃ f, 32 * k + g = f := ⟨_, rfl⟩
      have HX := Lib.hid (show x - 1048576 = (f : Int) by omega)
      have hfb : (f : Int) < 2048 := by omega
      have HD := Lib.hid (show (f : Int) / 32 = (k : Int) by omega)
      have HM := Lib.hid (show (f : Int) - (k : Int) * 32 = (g : Int) by omega)
      have HG := Lib.hid (show (g : Int) / (z : Int) = (s : Int) by rw [← hg]; simp only [Int.natCast_mul]; exact Int.mul_ediv_cancel _ (by omega))
      have HC := Lib.hid (show (g : Int) < Cls.csl (Cls.cof l.length) * Cls.csz (Cls.cof l.length) by
        rw [hz, ← hc, hpg.2, ← hg, ← Int.natCast_mul]
        exact Int.ofNat_lt.2 (Nat.mul_lt_mul_of_pos_right hs (by omega)))
      have hgb : (g : Int) < 32 := by omega
      have HME := Lib.hid (H0.out.toHpMem.arena ha hK (fun i hi => by
        rcases hi with rfl | rfl
        · exact .inl (.inr (.inr (.inr ⟨k, p, hk, rfl⟩)))
        · exact .inl (.inr (.inr (.inl rfl)))) (fun i hi => by
        rcases foot_set_of hi with e | ⟨q, e, e'⟩
        · exact .inl e
        · have e := Option.some.inj e
          subst e
          subst e'
          exact .inl (.inr (.inr (.inr ⟨k, p, hk, rfl⟩)))))
      have HKE := Lib.hid hK
      have HB0 := Lib.hid hb0
      have HINV := Lib.hid (made_inv H0.out hk (z := z) (bl := bl) HL.out hc hU)
      have HFA := Lib.hid (show Full σ.ps (Cls.cof l.length) k ∧ σ.ps[k]? = some (some p) ∧ p.c = Cls.cof l.length ∧ Cls.csz p.c = z ∧ s < p.n ∧ p.U.testBit s = false ∧ (∀ i, i < s → p.U.testBit i = true) from ⟨hF, hk, hc, by rw [hc]; exact hz, hs, hU, hall⟩)
      have HZ := Lib.hid hz
      have HA := Lib.hid hA
      have HK2 := Lib.hid hkk
      have HS2 := Lib.hid hss
      have hk64 : (k : Int) < 64 := by omega
      clear hb0 hF hk hc hz hs hU hall ha hK hA hpg hfit hkl hn64 hss hkk hg hf H
      obtain ⟨e0, e1, e2, e3, e4⟩ := HME.out.five
      have f3 := HME.out.blk.free 3
      have f4 := HME.out.blk.free 4
      cases bl
      · have hx := HX.out
        go_wp2_with (simp only [hx])
        clear hx
        have hd := HD.out
        rw [hd]
        clear hd e0 e1 e2 e3 e4 f3 f4
        have hV : Blk ((wc.setCell ⟨B.b, 3, none⟩ (.int .i64 (σ.sr + 1))).setCell ⟨B.b, 4, none⟩ (.int .i64 (σ.gv + l.length))) B.b #[.pointer (some ⟨B.ba, 0, none⟩), .slice B.SA ls.length B.cS, .map (some B.bm), .int .i64 (σ.sr + 1), .int .i64 (σ.gv + l.length)] 116 := Blk.of_eq ((HME.out.blk.set 3 _).set 4 _) rfl
        have hm1 := HME.out.counted hV (fun i hi => (Below.heap_setCell _ _ _ i (by simpa using hi)).trans (Below.heap_setCell _ _ _ i (by simpa using hi)))
        have hk1 : Kept (fun i => i = B.b ∨ i = p.b ∨ i = B.gw ∨ i = B.bm) w ((wc.setCell ⟨B.b, 3, none⟩ (.int .i64 (σ.sr + 1))).setCell ⟨B.b, 4, none⟩ (.int .i64 (σ.gv + l.length))) :=
          (((Kept.of_below HB0.out _).step HKE.out (fun i _ e => by rcases e with e | e <;> simp [e])).set (p := ⟨B.b, 3, none⟩) (.inl (.inl rfl)) _).set (p := ⟨B.b, 4, none⟩) (.inl (.inl rfl)) _
        have hbt := Blk.new ((wc.setCell ⟨B.b, 3, none⟩ (.int .i64 (σ.sr + 1))).setCell ⟨B.b, 4, none⟩ (.int .i64 (σ.gv + l.length))) #[.int .i64 sh, .int .i64 (σ.sr + 1), .int .i64 0] 118
        have hm2 := hm1.call (fresh_alloc (Below.refl _ _) (.cells #[.int .i64 sh, .int .i64 (σ.sr + 1), .int .i64 0] 118))
        have hk2 := hk1.alloc (.cells #[.int .i64 sh, .int .i64 (σ.sr + 1), .int .i64 0] 118)
        rw [show ((wc.setCell ⟨B.b, 3, none⟩ (.int .i64 (σ.sr + 1))).setCell ⟨B.b, 4, none⟩ (.int .i64 (σ.gv + l.length))).heap.size = wc.heap.size by simp] at hbt
        have HM2 := Lib.hid hm2
        have HK3 := Lib.hid hk2
        have HBT := Lib.hid hbt
        clear hV hm1 hk1 hbt hm2 hk2 HME HKE HB0
        generalize ((wc.setCell ⟨B.b, 3, none⟩ (.int .i64 (σ.sr + 1))).setCell ⟨B.b, 4, none⟩ (.int .i64 (σ.gv + l.length))).alloc (.cells #[.int .i64 sh, .int .i64 (σ.sr + 1), .int .i64 0] 118) = W5 at *
        refine (Cls.of_any _ _).mono ?_
        rintro e w1 ⟨rfl, rfl⟩
        dsimp only
        have hx := HX.out
        have hx3 := HM.out
        go_wp2_with (first | simp only [hx] | simp only [hx3])
        clear hx hx3
        refine (Cls.slot_in _ _ _ (by omega) HC.out).mono ?_
        rw [HZ.out, HG.out]
        rintro e w1 ⟨rfl, rfl⟩
        dsimp only
        go_wp2_with fail
        obtain ⟨t0, t1, t2, -, -, -⟩ := HBT.out.three
        obtain ⟨e0, e1, e2, e3, e4⟩ := HM2.out.five
        go_still_tail 8, (by kernel_rfl)
        change wpList _ _ _ _ _ W5.drew
        have HM3 := Lib.hid (HM2.out.drewN 1)
        have HK4 := Lib.hid (HK3.out.drewN 1)
        clear t0 t1 t2 e0 e1 e2 e3 e4 HM2 HK3 HBT
        have hW6 : W5.drewN 1 = W5.drew := rfl
        rw [hW6] at HM3 HK4
        clear hW6
        generalize W5.drew = W6 at *
        go_wp2_with (first
          | (at_mapUpdate; refine wpList_put rfl _ _ _ rfl (k := k) (s := s) ((sh : Int), σ.sr + 1, 0) rfl rfl rfl HM3.out.mp HK2.out HS2.out ?_; intro w7 hm7 hg7)
          | fail)
        go_ret2
        exact Or.inr ⟨k, p, s, z, by rw [HA.out]; rfl, HFA.out.1, HFA.out.2.1, HFA.out.2.2.1, HFA.out.2.2.2.1, HFA.out.2.2.2.2.1, HFA.out.2.2.2.2.2.1, HFA.out.2.2.2.2.2.2, ⟨HM3.out.mapped hm7 hg7, HINV.out.1, HINV.out.2⟩, HK4.out.step (Kept.of_grown hg7) (fun i _ e => .inr (.inr (.inr (Option.some.inj e))))⟩
      · have hx := HX.out
        go_wp2_with (simp only [hx])
        clear hx
        have hd := HD.out
        rw [hd]
        clear hd e0 e1 e2 e3 e4 f3 f4
        have hV : Blk ((wc.setCell ⟨B.b, 3, none⟩ (.int .i64 (σ.sr + 1))).setCell ⟨B.b, 4, none⟩ (.int .i64 (σ.gv + l.length))) B.b #[.pointer (some ⟨B.ba, 0, none⟩), .slice B.SA ls.length B.cS, .map (some B.bm), .int .i64 (σ.sr + 1), .int .i64 (σ.gv + l.length)] 116 := Blk.of_eq ((HME.out.blk.set 3 _).set 4 _) rfl
        have hm1 := HME.out.counted hV (fun i hi => (Below.heap_setCell _ _ _ i (by simpa using hi)).trans (Below.heap_setCell _ _ _ i (by simpa using hi)))
        have hk1 : Kept (fun i => i = B.b ∨ i = p.b ∨ i = B.gw ∨ i = B.bm) w ((wc.setCell ⟨B.b, 3, none⟩ (.int .i64 (σ.sr + 1))).setCell ⟨B.b, 4, none⟩ (.int .i64 (σ.gv + l.length))) :=
          (((Kept.of_below HB0.out _).step HKE.out (fun i _ e => by rcases e with e | e <;> simp [e])).set (p := ⟨B.b, 3, none⟩) (.inl (.inl rfl)) _).set (p := ⟨B.b, 4, none⟩) (.inl (.inl rfl)) _
        have hbt := Blk.new ((wc.setCell ⟨B.b, 3, none⟩ (.int .i64 (σ.sr + 1))).setCell ⟨B.b, 4, none⟩ (.int .i64 (σ.gv + l.length))) #[.int .i64 sh, .int .i64 (σ.sr + 1), .int .i64 2] 118
        have hm2 := hm1.call (fresh_alloc (Below.refl _ _) (.cells #[.int .i64 sh, .int .i64 (σ.sr + 1), .int .i64 2] 118))
        have hk2 := hk1.alloc (.cells #[.int .i64 sh, .int .i64 (σ.sr + 1), .int .i64 2] 118)
        rw [show ((wc.setCell ⟨B.b, 3, none⟩ (.int .i64 (σ.sr + 1))).setCell ⟨B.b, 4, none⟩ (.int .i64 (σ.gv + l.length))).heap.size = wc.heap.size by simp] at hbt
        have HM2 := Lib.hid hm2
        have HK3 := Lib.hid hk2
        have HBT := Lib.hid hbt
        clear hV hm1 hk1 hbt hm2 hk2 HME HKE HB0
        generalize ((wc.setCell ⟨B.b, 3, none⟩ (.int .i64 (σ.sr + 1))).setCell ⟨B.b, 4, none⟩ (.int .i64 (σ.gv + l.length))).alloc (.cells #[.int .i64 sh, .int .i64 (σ.sr + 1), .int .i64 2] 118) = W5 at *
        refine (Cls.of_any _ _).mono ?_
        rintro e w1 ⟨rfl, rfl⟩
        dsimp only
        have hx := HX.out
        have hx3 := HM.out
        go_wp2_with (first | simp only [hx] | simp only [hx3])
        clear hx hx3
        refine (Cls.slot_in _ _ _ (by omega) HC.out).mono ?_
        rw [HZ.out, HG.out]
        rintro e w1 ⟨rfl, rfl⟩
        dsimp only
        go_wp2_with fail
        obtain ⟨t0, t1, t2, -, -, -⟩ := HBT.out.three
        obtain ⟨e0, e1, e2, e3, e4⟩ := HM2.out.five
        go_still_tail 8, (by kernel_rfl)
        change wpList _ _ _ _ _ W5.drew
        have HM3 := Lib.hid (HM2.out.drewN 1)
        have HK4 := Lib.hid (HK3.out.drewN 1)
        clear t0 t1 t2 e0 e1 e2 e3 e4 HM2 HK3 HBT
        have hW6 : W5.drewN 1 = W5.drew := rfl
        rw [hW6] at HM3 HK4
        clear hW6
        generalize W5.drew = W6 at *
        go_wp2_with (first
          | (at_mapUpdate; refine wpList_put rfl _ _ _ rfl (k := k) (s := s) ((sh : Int), σ.sr + 1, 2) rfl rfl rfl HM3.out.mp HK2.out HS2.out ?_; intro w7 hm7 hg7)
          | fail)
        go_ret2
        exact Or.inr ⟨k, p, s, z, by rw [HA.out]; rfl, HFA.out.1, HFA.out.2.1, HFA.out.2.2.1, HFA.out.2.2.2.1, HFA.out.2.2.2.2.1, HFA.out.2.2.2.2.2.1, HFA.out.2.2.2.2.2.2, ⟨HM3.out.mapped hm7 hg7, HINV.out.1, HINV.out.2⟩, HK4.out.step (Kept.of_grown hg7) (fun i _ e => .inr (.inr (.inr (Option.some.inj e))))⟩
end Go.Proofs.YtfgpadkoonogpaaDoor.Hp
