/- Links between the objects of a heap that was filled: what they do to its words (plain). -/
import Derived.Test.YtfgpadkoonogpaaDoorDt
import Derived.Test.YtfgpadkoonogpaaDoorPts
import Derived.Test.YtfgpadkoonogpaaDoorBt
namespace Go.Proofs.YtfgpadkoonogpaaDoor.Hp
open Go.RowKit Pg Ar Tm
set_option linter.unusedSimpArgs false
set_option linter.unusedVariables false

abbrev Link := Int × Int × Int
def ix (x : Int) (n : Nat) : Nat := ((wrap64 (x.tmod (n : Int) + (n : Int))).tmod (n : Int)).toNat
theorem ix_is (x : Int) {n : Nat} (h : 0 < n) (h2 : n ≤ 1000000) : ix x n < n ∧ (wrap64 (x.tmod (n : Int) + (n : Int))).tmod (n : Int) = (ix x n : Int) := by
  obtain ⟨j, h1, h3⟩ := Bit.idx x n h h2
  unfold ix
  rw [h3]
  exact ⟨h1, by simp⟩
def lval (L : List Int) (t : Int) : Int := if 0 ≤ t then L.getD (t.toNat % L.length) 0 else 0
def lk1 (ls : List (List Int)) (L : List Int) (σ : HS) (x : Link) : HS :=
  if L = [] then σ else
  match hat σ (L.getD (ix x.1 L.length) 0) with
  | none => σ
  | some (k, s) => if ((ls.getD ((σ.M k s).getD (0, 0, 0)).1.toNat [])[ix x.2.1 16]?).map Shp.isP = some true then { σ with ws := σ.ws.set (L.getD (ix x.1 L.length) 0 + (ix x.2.1 16 : Int) - 1048576).toNat (lval L x.2.2) } else σ
def lks (ls : List (List Int)) (L : List Int) (l : List Link) (σ : HS) : HS := l.foldl (lk1 ls L) σ
theorem lks_snoc (ls : List (List Int)) (L : List Int) (l : List Link) (x : Link) (σ : HS) : lks ls L (l ++ [x]) σ = lk1 ls L (lks ls L l σ) x := by
  unfold lks
  rw [List.foldl_append]
  rfl
theorem lks_nil (ls : List (List Int)) : ∀ (l : List Link) (σ : HS), lks ls [] l σ = σ
  | [], _ => rfl
  | x :: r, σ => lks_nil ls r σ
/-- What links leave alone. -/
theorem lk1_ws (ls : List (List Int)) (L : List Int) (σ : HS) (x : Link) : ∃ ws, lk1 ls L σ x = { σ with ws := ws } ∧ ws.length = σ.ws.length := by
  unfold lk1
  split
  · exact ⟨_, rfl, rfl⟩
  · split
    · exact ⟨_, rfl, rfl⟩
    · split
      · exact ⟨_, rfl, by simp⟩
      · exact ⟨_, rfl, rfl⟩
theorem lks_ws (ls : List (List Int)) (L : List Int) : ∀ (l : List Link) (σ : HS), ∃ ws, lks ls L l σ = { σ with ws := ws } ∧ ws.length = σ.ws.length
  | [], σ => ⟨_, rfl, rfl⟩
  | x :: r, σ => by
    obtain ⟨ws, h1, h2⟩ := lk1_ws ls L σ x
    obtain ⟨ws', h3, h4⟩ := lks_ws ls L r (lk1 ls L σ x)
    rw [h1] at h3 h4
    refine ⟨ws', ?_, by rw [h4]; exact h2⟩
    show lks ls L r (lk1 ls L σ x) = _
    rw [h1, h3]
theorem Same.lk1 {σ τ : HS} (h : Same σ τ) (ls : List (List Int)) (L : List Int) (x : Link) : Same (lk1 ls L σ x) (lk1 ls L τ x) := by
  unfold Hp.lk1
  split
  · exact h
  · rw [h.hat_, h.M, h.ws]
    split
    · exact h
    · split
      · exact ⟨h.ps, rfl, rfl, h.sr, h.gv⟩
      · exact h
theorem Same.lks {ls : List (List Int)} {L : List Int} : ∀ (l : List Link) {σ τ : HS}, Same σ τ → Same (lks ls L l σ) (lks ls L l τ)
  | [], _, _, h => h
  | x :: r, _, _, h => Same.lks r (h.lk1 ls L x)
/-- Each word is 0 or an object of the list. -/
def Words (L : List Int) (ws : List Int) : Prop := ∀ (j : Nat) (v : Int), ws[j]? = some v → v = 0 ∨ v ∈ L
theorem Words.set {L ws : List Int} (h : Words L ws) (i : Nat) {v : Int} (hv : v = 0 ∨ v ∈ L) : Words L (ws.set i v) := by
  intro j u hu
  rcases Nat.decEq i j with e | e
  · rw [List.getElem?_set_ne e] at hu
    exact h j u hu
  · subst e
    obtain ⟨hl, hu⟩ := List.getElem?_eq_some_iff.1 hu
    rw [List.getElem_set_self] at hu
    rw [← hu]
    exact hv
theorem Words.more {L L' ws : List Int} (h : Words L ws) (hs : ∀ a ∈ L, a ∈ L') : Words L' ws := fun j v hv => (h j v hv).imp id (hs v)
theorem Words.clr {L : List Int} : ∀ (n : Nat) {ws : List Int} (o : Nat), Words L ws → Words L (clr ws o n)
  | 0, _, _, h => h
  | n + 1, _, o, h => Words.clr n (o + 1) (h.set o (.inl rfl))
theorem lval_in (L : List Int) (t : Int) (hL : 0 < L.length) : lval L t = 0 ∨ lval L t ∈ L := by
  unfold lval
  split
  · right
    have := Nat.mod_lt t.toNat hL
    rw [List.getD, List.getElem?_eq_getElem this]
    exact List.getElem_mem this
  · exact .inl rfl
theorem Words.lks {ls : List (List Int)} {L : List Int} : ∀ (l : List Link) {σ : HS}, Words L σ.ws → Words L (lks ls L l σ).ws
  | [], _, h => h
  | x :: r, σ, h => by
    refine Words.lks r ?_
    unfold lk1
    split
    · exact h
    · rename_i hL
      split
      · exact h
      · split
        · exact h.set _ (lval_in L x.2.2 (List.length_pos_iff.2 hL))
        · exact h
/-- A heap being filled, its list without repetition, all words 0. -/
structure FillX (w wr : World) (B : HB) (ls : List (List Int)) (P i : Nat) (L : List Int) (σ : HS) : Prop extends Fill w wr B ls P i L σ where
  nd : L.Pairwise (· ≠ ·)
  wz : Words L σ.ws
namespace FillX
variable {w wr w' : World} {B : HB} {ls : List (List Int)} {P i j : Nat} {L : List Int} {σ : HS}
theorem call (h : FillX w wr B ls P i L σ) (hb : Below wr.heap.size wr w') : FillX w w' B ls P i L σ := ⟨h.toFill.call hb, h.nd, h.wz⟩
theorem aside {S : Nat → Prop} (h : FillX w wr B ls P i L σ) (h0 : 0 < w.heap.size) (hk : Kept S wr w') (hS : ∀ i, S i → ¬ HFoot B σ i ∧ B.z ≤ i) : FillX w w' B ls P i L σ := ⟨h.toFill.aside h0 hk hS, h.nd, h.wz⟩
theorem more (h : FillX w wr B ls P i L σ) (hj : i ≤ j) : FillX w wr B ls P j L σ := ⟨h.toFill.more hj, h.nd, h.wz⟩
/-- A word is set. -/
theorem word (h : FillX w wr B ls P i L σ) (h0 : 0 < w.heap.size) {ws : List Int} (hp : HpAt w' B ls { σ with ws := ws }) (hk : Kept (fun i => i = B.gw) wr w') (hw : Words L ws) : FillX w w' B ls P i L { σ with ws := ws } :=
  ⟨⟨h.hw.step h0 hp hk (fun i hi => hi ▸ foot_gw B _), h.len, h.sr0, h.sr, h.gv0, h.gv, h.wh, h.num, h.at_⟩, h.nd, hw⟩
end FillX
/-- What one link does. -/
theorem lk1_at {ls : List (List Int)} {L : List Int} {σ : HS} {x : Link} {a : Int} {k s j K : Nat} {t : Thing} {l : List Int} (hL : 0 < L.length) (hA : L.getD (ix x.1 L.length) 0 = a) (hh : hat σ a = some (k, s)) (ht : σ.M k s = some t) (hj : t.1 = (j : Int)) (hl : ls[j]? = some l) (hK : ix x.2.1 16 = K) :
    (∀ z, l[K]? = some z → Shp.isP z = true → lk1 ls L σ x = { σ with ws := σ.ws.set (a + (K : Int) - 1048576).toNat (lval L x.2.2) }) ∧ ((l[K]?).map Shp.isP ≠ some true → lk1 ls L σ x = σ) := by
  have e : ls.getD ((σ.M k s).getD (0, 0, 0)).1.toNat [] = l := by rw [ht]; simp [hj, List.getD, hl]
  have e0 : lk1 ls L σ x = if (l[K]?).map Shp.isP = some true then { σ with ws := σ.ws.set (a + (K : Int) - 1048576).toNat (lval L x.2.2) } else σ := by
    unfold lk1
    rw [if_neg (fun e => by rw [e] at hL; exact absurd hL (by decide)), hA, hh]
    dsimp only
    simp only [e, hK]
  refine ⟨fun z hz hp => ?_, fun hn => ?_⟩
  · rw [e0, if_pos (by rw [hz]; exact congrArg some hp)]
  · rw [e0, if_neg hn]
theorem link_yes {w w6 w8 : World} {B : HB} {ls : List (List Int)} {P i : Nat} {L : List Int} {τ σ : HS} {A : Option Addr} {c : Nat} {ws : List Int} (h0 : 0 < w.heap.size) (hf : FillX w w6 B ls P i L τ) (hr : LR w w6 B σ L A c) (hp : HpAt w8 B ls { τ with ws := ws }) (hk : Kept (fun i => i = B.gw) w6 w8) (hw : Words L ws) :
    FillX w w8 B ls P i L { τ with ws := ws } ∧ LR w w8 B σ L A c :=
  ⟨hf.word h0 hp hk hw, hr.kept hk (fun i hi => hi ▸ foot_gw B _) fun i hi => .inl hi⟩
theorem emod_toNat {t : Int} (h : 0 ≤ t) (n : Nat) : t % (n : Int) = ((t.toNat % n : Nat) : Int) := by
  obtain ⟨k, rfl⟩ := Int.eq_ofNat_of_zero_le h
  rw [Int.toNat_natCast]
  exact (Int.natCast_emod _ _).symm
theorem LR.lks {w wr : World} {B : HB} {σ : HS} {L : List Int} {A : Option Addr} {c : Nat} (h : LR w wr B σ L A c) (ls : List (List Int)) (K : List Int) (l : List Link) : LR w wr B (lks ls K l σ) L A c := by
  obtain ⟨ws, e, _⟩ := lks_ws ls K l σ
  rw [e]
  exact h.ps fun i hi => hi
theorem lval_at {L : List Int} {t : Int} (h : 0 ≤ t) {j : Nat} (hj : t.toNat % L.length = j) {v : Int} (hv : L[j]? = some v) : lval L t = v := by
  unfold lval
  rw [if_pos h, hj, List.getD, hv]
  rfl
/-- What Alloc may have done in a round that began at σ0. -/
def MidX (w wr : World) (B : HB) (ls : List (List Int)) (P i : Nat) (L : List Int) (A : Option Addr) (cc : Nat) (c : Int) (sh n : Nat) (σ0 : HS) (a f : Int) : Prop :=
  (f = 5 ∧ FillX w wr B ls P i L σ0 ∧ LR w wr B σ0 L A cc ∧ Full σ0.ps c σ0.ps.length) ∨ (f = 0 ∧ ∃ σ, FillX w wr B ls P (i + 1) (L ++ [a]) σ ∧ LR w wr B σ L A cc ∧ AlX c sh n σ0 σ a)
/-- How far a round has come. -/
def EndX (w wr : World) (B : HB) (ls : List (List Int)) (P i : Nat) (L : List Int) (A : Option Addr) (cc : Nat) (c : Int) (sh n : Nat) (σ0 : HS) (a f : Int) : Prop :=
  (f = 5 ∧ ∃ σ, FillX w wr B ls P i L σ ∧ LR w wr B σ L A cc ∧ StX c sh n σ0 σ []) ∨ (f = 0 ∧ ∃ σ, FillX w wr B ls P (i + 1) (L ++ [a]) σ ∧ LR w wr B σ L A cc ∧ StX c sh n σ0 σ [a])
theorem mid_alx {w wr w' : World} {B : HB} {ls : List (List Int)} {P i : Nat} {L : List Int} {A : Option Addr} {cc : Nat} {σ : HS} {sh : Nat} {l : List Int} {e : Ending} (h0 : 0 < w.heap.size) (h : FillX w wr B ls P i L σ) (hl : LR w wr B σ L A cc) (h16 : l.length ≤ 16)
    (ha : Al B ls σ sh l.length false wr e w') : ∃ a f, e = .returned (.tuple #[.int .i64 a, .int .i64 f]) ∧ MidX w w' B ls P i L A cc (Cls.cof (l.length : Int)) sh l.length σ a f := by
  rcases ha with ⟨he, h1, h2, h3⟩ | ⟨k, p, s, z, he, h2, h3, h4, h5, h6, h7, h8, h9, h10⟩
  · exact ⟨_, _, he, .inl ⟨rfl, h.call h3, hl.call h3, h1⟩⟩
  · obtain ⟨n1, n2, n3, n4⟩ := al_num h.hw.hp h3 h5 h6 h7 h9
    refine ⟨_, _, he, .inr ⟨rfl, made σ k p s z sh l.length false, ⟨⟨h.hw.step h0 h9 h10 (foot_al h3), ?_, ?_, ?_, ?_, ?_, ?_, ?_, ?_⟩, ?_, ?_⟩, hl.kept h10 (foot_al h3) (fun i hi => ?_), ?_⟩⟩
    · show (σ.ps.set k _).length = P
      rw [List.length_set]
      exact h.len
    · show 0 ≤ σ.sr + 1
      have := h.sr0
      omega
    · show σ.sr + 1 ≤ ((i + 1 : Nat) : Int)
      have := h.sr
      omega
    · show 0 ≤ σ.gv + (l.length : Int)
      have := h.gv0
      omega
    · show σ.gv + (l.length : Int) ≤ ((16 * (i + 1) : Nat) : Int)
      have := h.gv
      omega
    · intro k' s' t ht
      have hp' : put σ.M k s (some ((sh : Int), σ.sr + 1, if false then 2 else 0)) k' s' = some t := ht
      clear ht
      unfold put at hp'
      split at hp'
      · obtain rfl := Option.some.inj hp'
        rfl
      · exact h.wh k' s' t hp'
    · rw [n1, h.num, List.length_append]
      rfl
    · intro a ha
      rcases List.mem_append.1 ha with ha | ha
      · obtain ⟨q, hq⟩ := h.at_ a ha
        exact ⟨q, n3 a q hq⟩
      · rw [List.mem_singleton.1 ha]
        exact ⟨_, n2⟩
    · rw [List.pairwise_append]
      refine ⟨h.nd, List.pairwise_singleton _ _, fun b hb c hc e => ?_⟩
      rw [List.mem_singleton.1 hc] at e
      obtain ⟨⟨k', s'⟩, hq⟩ := h.at_ b hb
      have h1 := n3 b _ hq
      rw [e, n2] at h1
      have h1 := Option.some.inj h1
      injection h1 with e1 e2
      subst e1 e2
      obtain ⟨_, p', hp', hU', _⟩ := hat_addr h.hw.hp hq
      have := (h.hw.hp.inv k s).2 ⟨p', hp', hU'⟩
      rw [n4] at this
      cases this
    · exact (h.wz.clr z (32 * k + s * z)).more fun a ha => List.mem_append_left _ ha
    · rcases foot_set (σ := σ) rfl hi with h | ⟨q, hq, rfl⟩
      · exact .inl h
      · obtain rfl := Option.some.inj hq
        exact .inl (show HFoot B σ p.b from foot_pg h3)
    · exact ⟨k, s, z, p, h2, h3, h4, h6, h7, h8, by rw [← h4]; exact h5, Same.refl _, rfl⟩
/-- What Fresh may have done. -/
theorem mid_frx {w wr w' : World} {B : HB} {ls : List (List Int)} {P i : Nat} {L : List Int} {A : Option Addr} {cc : Nat} {σ : HS} {cl : Int} {n : Nat} {e : Ending} (h0 : 0 < w.heap.size) (h : FillX w wr B ls P i L σ) (hl : LR w wr B σ L A cc) (hn : Cls.csl cl = (n : Int))
    (hf : Fr B ls σ cl n wr e w') : ∃ b, e = .returned (.bool b) ∧ ((b = false ∧ FillX w w' B ls P i L σ ∧ LR w w' B σ L A cc ∧ NoneX σ) ∨ (b = true ∧ ∃ σ', FillX w w' B ls P i L σ' ∧ LR w w' B σ' L A cc ∧ FrX cl σ σ')) := by
  rcases hf with ⟨he, h1, _, hb⟩ | ⟨k, bp, he, h1, h2, h3, h4, h5⟩
  · exact ⟨_, he, .inl ⟨rfl, h.call hb, hl.call hb, h1⟩⟩
  · obtain ⟨n1, n2⟩ := fr_num h.hw.hp h1 h4
    refine ⟨_, he, .inr ⟨rfl, { σ with ps := σ.ps.set k (some ⟨bp, cl, n, 0, 0⟩) }, ⟨⟨h.hw.step h0 h4 h5 (fun i hi => hi ▸ foot_gp B _), ?_, h.sr0, h.sr, h.gv0, h.gv, h.wh, n1.trans h.num, ?_⟩, h.nd, h.wz⟩, hl.kept h5 (fun i hi => hi ▸ foot_gp B _) (fun i hi => ?_), ⟨k, n, hn, h1, h2, (Same.refl σ).set_ k (x := some ⟨bp, cl, n, 0, 0⟩) (y := some ⟨0, cl, n, 0, 0⟩) rfl _ _ _ _⟩⟩⟩
    · show (σ.ps.set k _).length = P
      rw [List.length_set]
      exact h.len
    · intro a ha
      obtain ⟨q, hq⟩ := h.at_ a ha
      exact ⟨q, n2 a q hq⟩
    · rcases foot_set (σ := σ) rfl hi with h | ⟨q, hq, rfl⟩
      · exact .inl h
      · obtain rfl := Option.some.inj hq
        exact .inr h3
end Go.Proofs.YtfgpadkoonogpaaDoor.Hp
