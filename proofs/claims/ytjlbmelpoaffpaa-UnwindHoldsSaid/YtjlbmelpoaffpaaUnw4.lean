/- Package unwind: a state in the box of a method, and what becomes of it. -/
import Derived.Test.YtjlbmelpoaffpaaUnw3
namespace Go.Proofs.Ytjlbmelpoaffpaa.Unw
open Go.RowKit
set_option linter.unusedSimpArgs false
set_option linter.unusedVariables false

/-- Within a method that began in w: its box holds a state in memory of its own, and the cell of its result is still empty. -/
structure Inner (w w' : World) (ms : List Mk) (al : List Al) (A : Option Addr) (c : Nat) (A' : Option Addr) (c' : Nat) : Prop where
  box : Blk w' w.heap.size #[.slice A ms.length c, .slice A' al.length c'] 26
  res : Blk w' (w.heap.size + 1) #[.slice none 0 0, .slice none 0 0] 26
  own : Owned (w.heap.size + 2) w' ms al A c A' c'
  below : Below w.heap.size w w'

theorem Inner.boxCells {w w' : World} {ms : List Mk} {al : List Al} {A : Option Addr} {c : Nat} {A' : Option Addr} {c' : Nat} (h : Inner w w' ms al A c A' c') :
    w'.cell? ⟨w.heap.size, 0, none⟩ = some (.slice A ms.length c) ∧ w'.cell? ⟨w.heap.size, 1, none⟩ = some (.slice A' al.length c') ∧ w'.frozen? ⟨w.heap.size, 0, none⟩ = false ∧ w'.frozen? ⟨w.heap.size, 1, none⟩ = false ∧
    w'.cell? ⟨w.heap.size + 1, 0, none⟩ = some (.slice none 0 0) ∧ w'.cell? ⟨w.heap.size + 1, 1, none⟩ = some (.slice none 0 0) ∧ w'.frozen? ⟨w.heap.size + 1, 0, none⟩ = false ∧ w'.frozen? ⟨w.heap.size + 1, 1, none⟩ = false := by
  obtain ⟨a1, a2, a3, a4⟩ := h.box.two
  obtain ⟨b1, b2, b3, b4⟩ := h.res.two
  exact ⟨a1, a2, a3, a4, b1, b2, b3, b4⟩

theorem inner_own {w w1 : World} {x y : Value} {e : Ending} {ms : List Mk} {al : List Al}
    (h : Gives id ms al ((w.alloc (.cells #[x, y] 26)).alloc (.cells #[.slice none 0 0, .slice none 0 0] 26)) e w1) :
    ∃ A c A' c', e = .returned (.agg #[.slice A ms.length c, .slice A' al.length c']) ∧ w1.cell? ⟨w.heap.size, 0, none⟩ = some x ∧ w1.cell? ⟨w.heap.size, 1, none⟩ = some y ∧ w1.frozen? ⟨w.heap.size, 0, none⟩ = false ∧ w1.frozen? ⟨w.heap.size, 1, none⟩ = false ∧
      Inner w ((w1.setCell ⟨w.heap.size, 0, none⟩ (.slice A ms.length c)).setCell ⟨w.heap.size, 1, none⟩ (.slice A' al.length c')) ms al A c A' c' := by
  obtain ⟨A, c, A', c', rfl, ho, hb⟩ := h
  have hs : ((w.alloc (.cells #[x, y] 26)).alloc (.cells #[.slice none 0 0, .slice none 0 0] 26)).heap.size = w.heap.size + 2 := by simp
  have B1 := ((Blk.new w #[x, y] 26).alloc (.cells #[.slice none 0 0, .slice none 0 0] 26)).call hb
  have B2 := Blk.new (w.alloc (.cells #[x, y] 26)) #[.slice none 0 0, .slice none 0 0] 26
  rw [World.size_alloc] at B2
  have B2' := B2.call hb
  have hw := below_call (fresh_alloc (fresh_alloc (Below.refl w.heap.size w) (.cells #[x, y] 26)) (.cells #[.slice none 0 0, .slice none 0 0] 26)) (by rw [hs]; omega) hb
  obtain ⟨k1, k2, k3, k4⟩ := B1.two
  have B3 := B1.set 0 (.slice A ms.length c)
  refine ⟨A, c, A', c', rfl, k1, k2, k3, k4, ⟨B3.set 1 (.slice A' al.length c'), ?_, ⟨?_, ?_⟩, (hw.setCell (Nat.le_refl _) _).setCell (Nat.le_refl _) _⟩⟩
  · exact (B2'.other (a := ⟨w.heap.size, 0, none⟩) (by show w.heap.size + 1 ≠ w.heap.size; omega) _).other (a := ⟨w.heap.size, 1, none⟩) (by show w.heap.size + 1 ≠ w.heap.size; omega) _
  · exact own_mono (own_set (own_set ho.1 B1 (by decide)) B3 (by decide)) (by rw [hs]; exact Nat.le_refl _)
  · exact own_mono (own_set (own_set ho.2 B1 (by decide)) B3 (by decide)) (by rw [hs]; exact Nat.le_refl _)

theorem Inner.gives {w w' : World} {ms : List Mk} {al : List Al} {A : Option Addr} {c : Nat} {A' : Option Addr} {c' : Nat} (h : Inner w w' ms al A c A' c') (F : Value → Value) :
    Gives F ms al w (.returned (F (.agg #[.slice A ms.length c, .slice A' al.length c']))) ((w'.setCell ⟨w.heap.size + 1, 0, none⟩ (.slice A ms.length c)).setCell ⟨w.heap.size + 1, 1, none⟩ (.slice A' al.length c')) := by
  have B3 := h.res.set 0 (.slice A ms.length c)
  refine ⟨A, c, A', c', rfl, ⟨?_, ?_⟩, (h.below.setCell (Nat.le_succ _) _).setCell (Nat.le_succ _) _⟩
  · exact own_mono (own_set (own_set h.own.1 h.res (by decide)) B3 (by decide)) (by omega)
  · exact own_mono (own_set (own_set h.own.2 h.res (by decide)) B3 (by decide)) (by omega)

theorem own_kinds {w : World} {B n n2 s1 s2 : Nat} {v v2 : Value} {xs ys : List Value} {e e2 : TypeId} (h : w.ownsRow B e s1 v n xs) (h2 : w.ownsRow B e2 s2 v2 n2 ys) (hne : e ≠ e2) : v2.ownBlock = none ∨ v2.ownBlock ≠ v.ownBlock := by
  rcases h2.2 with ⟨rfl, _⟩ | ⟨g2, cap2, cur2, rfl, _, hg2, _⟩
  · exact .inl rfl
  · refine .inr ?_
    rcases h.2 with ⟨rfl, _⟩ | ⟨g, cap, cur, rfl, _, hg, _⟩
    · simp [Value.ownBlock]
    · intro he
      have : g2 = g := by simpa [Value.ownBlock] using he
      subst this
      rw [hg] at hg2
      injection hg2 with hg2
      injection hg2 with _ ht
      exact hne ht

theorem Blk.readsN {w : World} {b B n size : Nat} {cs : Array Value} {T : TypeId} {xs : List Value} (h : Blk w b cs T) (hB : b < B) (hx : cs.toList = xs) (hn : xs.length = n * size) (hm : n ≤ maxLen) : Reads w B size (some ⟨b, 0, none⟩) n n xs := by
  refine ⟨Nat.le_refl _, hm, hn, fun _ => ⟨b, 0, rfl, hB, fun j u hu => ?_⟩⟩
  rw [Nat.zero_add, h.cell j, ← hu, ← hx]
  simp
theorem Blk.new' {w : World} {n : Nat} (hs : w.heap.size = n) (cs : Array Value) (T : TypeId) : Blk (w.alloc (.cells cs T (0, 0))) n cs T := hs ▸ Blk.new w cs T
theorem Inner.lt {w w1 : World} {x y : Value} {ms : List Mk} {al : List Al} {A : Option Addr} {c : Nat} {A' : Option Addr} {c' : Nat} {p q : Addr} (h : Inner w ((w1.setCell p x).setCell q y) ms al A c A' c') : w.heap.size + 1 < w1.heap.size := by
  have := h.res.lt
  simpa [World.setCell] using this
/-- A frame more. -/
theorem Inner.moreM {w w' w2 : World} {ms : List Mk} {al : List Al} {A A2 : Option Addr} {c c2 : Nat} {A' : Option Addr} {c' : Nat} (h : Inner w w' ms al A c A' c') (m : Mk)
    (ho : w2.ownsRow (w.heap.size + 2) 38 3 (.slice A2 (ms.length + 1) c2) (ms.length + 1) (mc ms ++ m.cells)) (hg : w'.grownBy w2 (Value.slice A ms.length c).ownBlock) :
    w2.cell? ⟨w.heap.size, 0, none⟩ = some (.slice A ms.length c) ∧ w2.frozen? ⟨w.heap.size, 0, none⟩ = false ∧ Inner w (w2.setCell ⟨w.heap.size, 0, none⟩ (.slice A2 (ms.length + 1) c2)) (m :: ms) al A2 c2 A' c' := by
  have hb : Blk w2 w.heap.size #[.slice A ms.length c, .slice A' al.length c'] 26 := (hg.block _ h.box.lt (own_ne h.own.1 h.box (by decide))).trans h.box
  have hr : Blk w2 (w.heap.size + 1) #[.slice none 0 0, .slice none 0 0] 26 := (hg.block _ h.res.lt (own_ne h.own.1 h.res (by decide))).trans h.res
  have ho2 := h.own.2.kept hg (own_kinds h.own.1 h.own.2 (by decide))
  refine ⟨hb.cell 0, hb.free 0, ⟨?_, ?_, ⟨?_, ?_⟩, ?_⟩⟩
  · exact hb.set 0 _
  · exact hr.other (a := ⟨w.heap.size, 0, none⟩) (by show w.heap.size + 1 ≠ w.heap.size; omega) _
  · exact own_set ho hb (by decide)
  · exact own_set ho2 hb (by decide)
  · exact (h.below.grown hg h.below.size (fun k hk => by have := (h.own.1.lt k hk).1; omega)).setCell (Nat.le_refl _) _
/-- An alarm more. -/
theorem Inner.moreA {w w' w2 : World} {ms : List Mk} {al : List Al} {A A2 : Option Addr} {c c2 : Nat} {A' : Option Addr} {c' : Nat} (h : Inner w w' ms al A c A' c') (m : Al)
    (ho : w2.ownsRow (w.heap.size + 2) 32 5 (.slice A2 (al.length + 1) c2) (al.length + 1) (ac al ++ m.cells)) (hg : w'.grownBy w2 (Value.slice A' al.length c').ownBlock) :
    w2.cell? ⟨w.heap.size, 1, none⟩ = some (.slice A' al.length c') ∧ w2.frozen? ⟨w.heap.size, 1, none⟩ = false ∧ Inner w (w2.setCell ⟨w.heap.size, 1, none⟩ (.slice A2 (al.length + 1) c2)) ms (m :: al) A c A2 c2 := by
  have hb : Blk w2 w.heap.size #[.slice A ms.length c, .slice A' al.length c'] 26 := (hg.block _ h.box.lt (own_ne h.own.2 h.box (by decide))).trans h.box
  have hr : Blk w2 (w.heap.size + 1) #[.slice none 0 0, .slice none 0 0] 26 := (hg.block _ h.res.lt (own_ne h.own.2 h.res (by decide))).trans h.res
  have ho2 := h.own.1.kept hg (own_kinds h.own.2 h.own.1 (by decide))
  refine ⟨hb.cell 1, hb.free 1, ⟨?_, ?_, ⟨?_, ?_⟩, ?_⟩⟩
  · exact hb.set 1 _
  · exact hr.other (a := ⟨w.heap.size, 1, none⟩) (by show w.heap.size + 1 ≠ w.heap.size; omega) _
  · exact own_set ho2 hb (by decide)
  · exact own_set ho hb (by decide)
  · exact (h.below.grown hg h.below.size (fun k hk => by have := (h.own.2.lt k hk).1; omega)).setCell (Nat.le_refl _) _

set_option maxHeartbeats 1000000 in
theorem enter_any (w : World) (v : Value) (ms : List Mk) (al : List Al) (h : St w v ms al) :
    Calls Try.prog 10 #[v] w (Gives id (⟨false, false, 0⟩ :: ms) al w) := by
  obtain ⟨i0, hi0, hz0, hz1, hz2⟩ := info_parts infoM
  have HI := Lib.hid (⟨hi0, hz0, hz1, hz2⟩ : Try.prog.info? 38 = some i0 ∧ i0.zero = some (.agg #[.bool false, .bool false, .int .i64 0]) ∧ i0.size = 3 ∧ i0.bytes = 16)
  have HS := Lib.hid h
  obtain ⟨A, c, A', c', rfl, _, _, hml, _⟩ := h
  clear hi0 hz0 hz1 hz2
  go_enter Try.func10, Try.ntmps10
  go_wp2_with fail
  refine (own_any _ _ ms al (HS.out.below (fresh_alloc (fresh_alloc (Below.refl _ _) _) _))).mono ?_
  intro e w1 hg
  obtain ⟨A3, c3, A4, c4, rfl, k1, k2, k3, k4, hin⟩ := inner_own hg
  have HIN := Lib.hid hin
  clear hg hin
  have hlt := HIN.out.lt
  dsimp only
  go_wp2_with (first
    | (at_builtin; go_loud (refine wpList_app _ rfl _ _ 23 rfl (w.heap.size + 2) 38 i0 _ 3 16 Try.underlying23 HI.out.1 HI.out.2.1 HI.out.2.2.1 HI.out.2.2.2 rfl (by decide) _ ms.length (mc ms) rfl (HIN.out.own.1.alloc _) (w1.heap.size + 1) _ 1 1 (Mk.cells ⟨false, false, 0⟩) rfl ?c1 ?c2 ?c3 ?c4 ?c5 ?_))
    | fail)
  case c1 => exact Blk.readsN (cs := #[.bool false, .bool false, .int .i64 0]) (Blk.new' (by simp [World.setCell]) _ _) (Nat.lt_succ_self _) rfl rfl (by decide)
  case c2 => exact mc_one [⟨false, false, 0⟩]
  case c3 => unfold maxLen; omega
  case c4 => omega
  case c5 => first | omega | (simp [World.setCell]; omega)
  intro a' c2 w2 ho2 hg2 _
  obtain ⟨j1, j2, hin⟩ := Inner.moreM ⟨HIN.out.box.alloc _, HIN.out.res.alloc _, ⟨HIN.out.own.1.alloc _, HIN.out.own.2.alloc _⟩, fresh_alloc HIN.out.below _⟩ ⟨false, false, 0⟩ ho2 hg2
  have HI2 := Lib.hid hin
  clear hin ho2 hg2
  obtain ⟨l1, l2, l3, l4, l5, l6, l7, l8⟩ := HI2.out.boxCells
  go_wp2_with fail
  exact bodyPost_ret (v := .agg #[.slice a' (ms.length + 1) c2, .slice A4 al.length c4]) (by simp [results, Try.results10, go_sem, l5, l6]) rfl (HI2.out.gives id)
end Go.Proofs.Ytjlbmelpoaffpaa.Unw
