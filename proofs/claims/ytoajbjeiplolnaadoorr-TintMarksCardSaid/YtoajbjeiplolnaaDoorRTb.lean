/- A heap that was built, a pile beside it, the list of its objects: what the laws of marking begin with. -/
import Derived.Test.YtoajbjeiplolnaaDoorRTnA
import Derived.Test.YtoajbjeiplolnaaDoorRBl
namespace Go.Proofs.YtoajbjeiplolnaaDoorR.Tn
open Go.RowKit Ar Hp
set_option linter.unusedSimpArgs false
set_option linter.unusedVariables false

theorem TR.aside {S : Nat → Prop} {w wr w' : World} {E : TB} {σ0 σ : HS} {T : TS} {v : Value} (h : TR w wr E σ0 T σ v) (h0 : 0 < w.heap.size) (hk : Kept S wr w') (hS : ∀ i, S i → ¬ E.foot σ0 v i ∧ E.B.z ≤ i) : TR w w' E σ0 T σ v :=
  { h with
    hw := h.hw.aside h0 hk fun i hi => ⟨fun e => (hS i hi).1 (.inl (h.evo.foot e)), (hS i hi).2⟩
    pl := h.pl.keep fun k hk2 => hk.block k (h.pl.lt hk2) (fun e => (hS k e).1 (.inr hk2))
    sh := h.shs hk fun i hi => (hS i hi).2 }
theorem own_beneath {w : World} {B B' n size : Nat} {v : Value} {e : TypeId} {xs : List Value} (h : w.ownsRow B e size v n xs) (hb : B' ≤ B) : w.ownsRow B' e size v n xs := by
  refine ⟨h.1, ?_⟩
  rcases h.2 with h1 | ⟨g, cap, cur, h1, h2, h3⟩
  · exact .inl h1
  · exact .inr ⟨g, cap, cur, h1, Nat.le_trans hb h2, h3⟩
/-- A heap, a pile, a list. -/
structure Rd (w wr : World) (E : TB) (σ0 : HS) (T : TS) (σ : HS) (v : Value) (L : List Int) (A : Option Addr) (c : Nat) : Prop where
  tr : TR w wr E σ0 T σ v
  row : wr.ownsRow w.heap.size 3 1 (.slice A L.length c) L.length (ints' L)
  rf : ∀ i, (Value.slice A L.length c).ownBlock = some i → ¬ E.foot σ0 v i
namespace Rd
variable {w wr w' : World} {E : TB} {σ0 σ σ' : HS} {T T' : TS} {v v' : Value} {L : List Int} {A : Option Addr} {c : Nat} {S : Nat → Prop}
theorem call (h : Rd w wr E σ0 T σ v L A c) (hb : Below wr.heap.size wr w') : Rd w w' E σ0 T σ v L A c := ⟨h.tr.call hb, own_block h.row fun k hk => hb.block k (h.row.lt k hk).2, h.rf⟩
theorem next (h : Rd w wr E σ0 T σ v L A c) (ht : TR w w' E σ0 T' σ' v') (hk : Kept (E.foot σ0 v) wr w') (hg : Pil.Grow v v' wr.heap.size) : Rd w w' E σ0 T' σ' v' L A c :=
  ⟨ht, own_block h.row fun k hk2 => hk.block k (h.row.lt k hk2).2 (h.rf k hk2), fun i hi e => h.rf i hi (foot_grow hg (h.row.lt i hi).2 e)⟩
theorem aside (h : Rd w wr E σ0 T σ v L A c) (h0 : 0 < w.heap.size) (hk : Kept S wr w') (hS : ∀ i, S i → ¬ E.foot σ0 v i ∧ E.B.z ≤ i ∧ (Value.slice A L.length c).ownBlock ≠ some i) : Rd w w' E σ0 T σ v L A c :=
  ⟨h.tr.aside h0 hk fun i hi => ⟨(hS i hi).1, (hS i hi).2.1⟩, own_block h.row fun k hk2 => hk.block k (h.row.lt k hk2).2 (fun e => (hS k e).2.2 hk2), h.rf⟩
theorem at_ (h : Rd w wr E σ0 T σ v L A c) {i : Nat} {x : Int} (hx : L[i]? = some x) : ∃ g, A = some ⟨g, 0, none⟩ ∧ g < wr.heap.size ∧ wr.cell? ⟨g, i, none⟩ = some (.int .i64 x) := by
  obtain ⟨g, rfl⟩ : ∃ g, A = some ⟨g, 0, none⟩ := by
    rcases h.row.2 with ⟨_, h⟩ | ⟨g, cap, _, h, _⟩
    · have h1 := (List.getElem?_eq_some_iff.1 hx).1
      exact absurd h (by omega)
    · injection h with h3; exact ⟨g, h3⟩
  have hcell := h.row.cells (g := g) rfl i (.int .i64 x) (by simp [ints', hx])
  rw [add_form] at hcell
  exact ⟨g, rfl, (h.row.lt g rfl).2, by simpa using hcell⟩
end Rd
/-- What a list of a heap's objects gives. -/
structure Ob (ls : List (List Int)) (σ : HS) (L : List Int) : Prop where
  gd : Gd σ
  wds : Wds ls σ
  wh : ∀ a, col σ a = 0
  at_ : ∀ a ∈ L, ∃ k s t l, hat σ a = some (k, s) ∧ σ.M k s = some t ∧ nfl ls σ k s = l ∧ 1 ≤ l ∧ ∀ f : Nat, f < l → fo σ (a + f) = some a
  bd : ∀ a ∈ L, 1048576 ≤ a ∧ a ≤ 1050624
  nd : L.Pairwise (· ≠ ·)
  num : (All σ).length = L.length
  ptr : ∀ a, ∀ x ∈ ptrs ls σ a, x = 0 ∨ x ∈ L
theorem pk_words {l ws : List Int} {a : Int} : ∀ (n : Nat) {x : Int}, x ∈ pk l ws a n → ∃ j : Nat, x = ws.getD j 0
  | 0, x, h => by cases h
  | n + 1, x, h => by
    unfold pk at h
    rcases List.mem_append.1 h with h | h
    · exact pk_words n h
    · split at h
      · exact ⟨_, List.mem_singleton.1 h⟩
      · cases h
theorem fo_in {w : World} {B : HB} {ls : List (List Int)} {σ : HS} (h : HpAt w B ls σ) {a : Int} {k s : Nat} (hh : hat σ a = some (k, s)) {p : PM} {z : Nat} (hp : σ.ps[k]? = some (some p)) (hz : Cls.csz p.c = (z : Int)) {f : Nat} (hf : f < z) : fo σ (a + f) = some a := by
  obtain ⟨p', z', h1, h2, h3, h4, h5, h6⟩ := slot_inside h hh
  rw [hp] at h1
  cases h1
  have h7 := h6 f (by omega)
  obtain ⟨p2, z2, f2, g2, g1, g3, _⟩ := hat_some h hh
  unfold fo
  rw [if_pos (by rw [h7]; rfl)]
  unfold fbase
  rw [h7]
  unfold fbase at g3
  rw [g1] at g3
  exact congrArg some g3
theorem Ob.of {w wr : World} {B : HB} {ls : List (List Int)} {P i : Nat} {L : List Int} {σ : HS} (h : FillX w wr B ls P i L σ) : Ob ls σ L := by
  have hbd : ∀ a ∈ L, 1048576 ≤ a ∧ a ≤ 1050624 := fun a ha => by
    obtain ⟨q, hq⟩ := h.at_ a ha
    exact hat_bound h.hw.hp hq
  have hptr : ∀ a, ∀ x ∈ ptrs ls σ a, x = 0 ∨ x ∈ L := by
    intro a x hx
    unfold ptrs at hx
    split at hx
    · cases hx
    · obtain ⟨j, rfl⟩ := pk_words _ hx
      rcases hw : σ.ws[j]? with _ | v
      · left
        rw [List.getD, hw]
        rfl
      · rw [List.getD, hw]
        exact h.wz j v hw
  refine ⟨Gd.of h.hw.hp, fun a x hx => ?_, white_of h.wh, fun a ha => ?_, hbd, h.nd, h.num, hptr⟩
  · rcases hptr a x hx with rfl | hx
    · decide
    · have := hbd x hx; omega
  · obtain ⟨⟨k, s⟩, hq⟩ := h.at_ a ha
    obtain ⟨_, p, hp, hU, hsn⟩ := hat_addr h.hw.hp hq
    obtain ⟨t, ht⟩ := Option.isSome_iff_exists.1 ((h.hw.hp.inv k s).2 ⟨p, hp, hU⟩)
    obtain ⟨j, l, _, hl, hn, h1, h2⟩ := nfl_is h.hw.hp ht hp
    obtain ⟨z, hz⟩ : ∃ z : Nat, Cls.csz p.c = (z : Int) := ⟨(Cls.csz p.c).toNat, by have := (Cls.csz_bd p.c).1; omega⟩
    exact ⟨k, s, t, _, hq, ht, rfl, by omega, fun f hf => fo_in h.hw.hp hq hp hz (by omega)⟩
theorem Ob.fo_ {ls : List (List Int)} {σ : HS} {L : List Int} (h : Ob ls σ L) {a : Int} (ha : a ∈ L) : fo σ a = some a := by
  obtain ⟨k, s, t, l, _, _, _, h1, h2⟩ := h.at_ a ha
  have := h2 0 (by omega)
  simpa using this
/-- A word that points, points to an object of the list, or to none. -/
theorem Ob.word {ls : List (List Int)} {σ : HS} {L : List Int} (h : Ob ls σ L) {a x b : Int} (hx : x ∈ ptrs ls σ a) (hb : fo σ x = some b) : x ∈ L ∧ b = x := by
  rcases h.ptr a x hx with rfl | hx
  · rw [fo_low (by decide)] at hb
    cases hb
  · rw [h.fo_ hx] at hb
    injection hb with hb
    exact ⟨hx, hb.symm⟩
/-- All objects are in the list. -/
theorem Ob.all {ls : List (List Int)} {σ : HS} {L : List Int} (h : Ob ls σ L) : ∀ a ∈ L, a ∈ All σ := fun a ha => h.gd.fo_in a a (h.fo_ ha)
def rm (room : Int) : Nat := (min (max room 1) 1000).toNat
theorem rm_bd (room : Int) : 1 ≤ rm room ∧ rm room ≤ 1000 := by unfold rm; omega
/-- What the laws begin with. -/
theorem Rd.start {w w0 wr w' : World} {B : HB} {ls : List (List Int)} {P N : Nat} {L : List Int} {A : Option Addr} {c : Nat} {σ : HS} {sa : Option Addr} {sc : Nat} {room : Int} (hb0 : Below w.heap.size w w0) (hf : FillX w0 wr B ls P N L σ) (hl : LR w0 wr B σ L A c) (hs : Shp.RS w0 w0.heap.size sa ls.length sc ls)
    (hp : Pil.PileAt w' wr.heap.size wr.heap.size (rm room) [] false (.slice none 0 0)) (hb : Below wr.heap.size wr w') :
    Rd w w' ⟨B, ls, wr.heap.size, wr.heap.size, rm room, w0.heap.size, sa, sc⟩ σ ⟨col σ, [], false⟩ σ (.slice none 0 0) L A c := by
  have hw : HW w wr B ls σ := ⟨hf.hw.hp, Nat.le_trans hb0.size hf.hw.newy, fresh_call hb0 hf.hw.bel, hf.hw.tab⟩
  have hph := PH.made hw hp hb
  refine ⟨hph.tr (rm_bd room).2 ((hs.keep hf.hw.bel).keep (hb.mono hf.hw.bel.size)) (Nat.le_trans hf.hw.newy hf.hw.hp.yz), own_block (own_beneath hl.own hb0.size) fun k hk => hb.block k (hl.own.lt k hk).2, fun i hi e => ?_⟩
  rcases e with e | rfl | e
  · exact hl.far i hi e
  · exact Nat.lt_irrefl _ (hl.own.lt _ hi).2
  · cases e
end Go.Proofs.YtoajbjeiplolnaaDoorR.Tn
