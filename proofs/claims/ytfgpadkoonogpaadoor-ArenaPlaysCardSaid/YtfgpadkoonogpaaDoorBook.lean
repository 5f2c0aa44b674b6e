/- Package besombook: a book of lists of ints: what it is in memory; marks; one more list. -/
import Derived.Test.YtfgpadkoonogpaaDoorBookS
import Derived.Test.YtfgpadkoonogpaaDoorGn
namespace Go.Proofs.YtfgpadkoonogpaaDoor.Book
open Go.RowKit
set_option linter.unusedSimpArgs false
set_option linter.unusedVariables false

/-- The marks of the i-th list, n of them from f on. -/
def marks (i f n : Nat) : List Int := (List.range n).map fun (k : Nat) => -1000000 * (i : Int) - ((f : Int) + (k : Int)) - 7
theorem marks_length (i f n : Nat) : (marks i f n).length = n := by simp [marks]
theorem marks_succ (i f n : Nat) : marks i f (n + 1) = marks i f n ++ [-1000000 * (i : Int) - ((f : Int) + (n : Int)) - 7] := by simp [marks, List.range_succ]
theorem marks_join (i a b : Nat) : marks i 0 a ++ marks i a b = marks i 0 (a + b) := by
  induction b with
  | zero => simp [marks]
  | succ b ih =>
    rw [marks_succ, ← List.append_assoc, ih, ← Nat.add_assoc, marks_succ]
    simp
set_option maxHeartbeats 400000 in
theorem marks_any (i f n : Nat) (w : World) (hi : i ≤ 1000) (hf : f ≤ 1000000) (hn : n ≤ 1000000) :
    Calls Tryd.prog 95 #[.int .i64 i, .int .i64 f, .int .i64 n] w (Copies (marks i f n) w) := by
  obtain ⟨i0, hi0, hz0, hz1, hz2⟩ := info_parts infoI
  have HI := Lib.hid (⟨hi0, hz0, hz1, hz2⟩ : Tryd.prog.info? 3 = some i0 ∧ i0.zero = some (.int .i64 0) ∧ i0.size = 1 ∧ i0.bytes = 8)
  clear hi0 hz0 hz1 hz2
  have hi1 : (i : Int) ≤ 1000 := by omega
  have hi2 : (0 : Int) ≤ (i : Int) := by omega
  have hf1 : (f : Int) ≤ 1000000 := by omega
  have hf2 : (0 : Int) ≤ (f : Int) := by omega
  have hn1 : (n : Int) ≤ 1000000 := by omega
  go_enter Tryd.func95, Tryd.ntmps95
  go_wp2_with fail
  go_loopw [7, 8] (fun v k wr => ∃ (j : Nat) (a : Option Addr) (c : Nat), j ≤ n ∧ v = .slice a j c ∧ k = .int .i64 ((f : Int) + (j : Int)) ∧ wr.ownsRow w.heap.size 3 1 (.slice a j c) j ((marks i f j).map (.int .i64)) ∧ Below w.heap.size w wr) (fun _ k _ => f + n - (intOf k).toNat)
  case atStart => exact ⟨0, none, 0, Nat.zero_le _, rfl, by simp, World.ownsRow_nil _ _ _ _, Below.refl _ _⟩
  case round =>
    obtain ⟨j, a, c, hj, rfl, rfl, ho, hb⟩ := hrel
    have HO := Lib.hid ho
    have HB := Lib.hid hb
    have hB := hb.size
    clear ho hb
    by_cases hlt : j < n
    · have h1 : (j : Int) < (n : Int) := by omega
      have h2 : (0 : Int) ≤ (j : Int) := by omega
      have h3 : (f : Int) + (j : Int) < (f : Int) + (n : Int) := by omega
      go_wp2_with (first
        | (at_builtin; go_loud (refine wpList_app _ rfl _ _ 27 rfl w.heap.size 3 i0 (.int .i64 0) 1 8 Tryd.underlying27 HI.out.1 HI.out.2.1 HI.out.2.2.1 HI.out.2.2.2 rfl (by decide) _ _ _ rfl (HO.out.alloc _) (wr.heap.size + 1) _ 1 1 [.int .i64 (-1000000 * (i : Int) - ((f : Int) + (j : Int)) - 7)] rfl (Blk.reads (Blk.new wr _ _) (by simp) rfl rfl (by decide)) ?c1 ?c2 ?c3 ?c4 ?_))
        | fail)
      case c1 => intro u hu; simp at hu; subst hu; rfl
      case c2 => unfold maxLen; omega
      case c3 => omega
      case c4 => simp; omega
      intro a' c' w2 ho2 hg2 hat2
      have HO2 := Lib.hid ho2
      have HW := Lib.hid (show Below w.heap.size w w2 from (fresh_alloc HB.out _).grown hg2 (by simp; omega) (fun k hk => (HO.out.lt k hk).1))
      clear ho2 hg2 hat2
      go_wp2_with fail
      refine ⟨⟨j + 1, a', c', by omega, rfl, by go_num, ?_, HW.out⟩, by simp [intOf]; omega⟩
      rw [marks_succ]
      simpa using HO2.out
    · obtain rfl : j = n := by omega
      have h1 : ¬ (j : Int) < (j : Int) := by omega
      go_wp2_with fail
      go_ret
      refine ⟨a, c, by rw [marks_length]; rfl, ?_, HB.out⟩
      rw [marks_length]
      exact HO.out

theorem same_true {w : World} {B1 B2 : Nat} {A1 A2 : Option Addr} {n1 c1 n2 c2 : Nat} {xs : List Int} (n : Nat) (h1 : RI w B1 A1 n1 c1 xs) (h2 : RI w B2 A2 n2 c2 xs) :
    Calls Tryd.prog 18 #[.slice A1 n1 c1, .slice A2 n2 c2] (w.drewN n) fun e w' => e = .returned (.bool true) ∧ ∃ m, w' = w.drewN m :=
  (same_any (w.drewN n) _ _ _ _ _ _ _ _ _ _ h1 h2).mono fun _ _ ⟨he, k, hk⟩ => ⟨he.trans (by simp), _, hk.trans (World.drewN_drewN _ _ _)⟩

/-- A list that is kept: its slice, its numbers. -/
abbrev KL := Value × List Int
def Own (w : World) (S : Nat → Prop) (base : Nat) (ks : List KL) (m : Nat := 99000) : Prop :=
  ∀ p ∈ ks, w.ownsRow base 3 1 p.1 p.2.length (p.2.map (.int .i64)) ∧ p.2.length ≤ m ∧ ∀ k, p.1.ownBlock = some k → S k
def Sep (ks : List KL) : Prop := ∀ (i j : Nat) (p q : KL) (k : Nat), ks[i]? = some p → ks[j]? = some q → p.1.ownBlock = some k → q.1.ownBlock = some k → i = j
/-- Block b is a book: it keeps the lists ks, and the copies ms; all that it has lies in S. -/
structure BookAt (w : World) (S : Nat → Prop) (base b : Nat) (ks ms : List KL) (vI vW : Value) : Prop where
  blk : Blk w b #[vI, vW, .slice none 0 0, .slice none 0 0, .slice none 0 0, .slice none 0 0, .slice none 0 0, .slice none 0 0, .slice none 0 0, .slice none 0 0] 38
  sb : S b
  nb : base ≤ b
  oI : w.ownsRow base 27 1 vI ks.length (ks.map Prod.fst)
  oW : w.ownsRow base 27 1 vW ms.length (ms.map Prod.fst)
  sI : ∀ k, vI.ownBlock = some k → S k
  sW : ∀ k, vW.ownBlock = some k → S k
  ne : ∀ k, vI.ownBlock = some k → vW.ownBlock ≠ some k
  li : Own w S base ks
  lw : Own w S base ms
  ap : Sep ks
  few : ks.length ≤ 250
  few2 : ms.length ≤ 250
theorem Own.keep {w w' : World} {S S' : Nat → Prop} {base m : Nat} {ks : List KL} (h : Own w S base ks m) (hk : ∀ p ∈ ks, ∀ k, p.1.ownBlock = some k → w'.heap[k]? = w.heap[k]?) (hs : ∀ k, S k → S' k) : Own w' S' base ks m :=
  fun p hp => ⟨own_block (h p hp).1 (hk p hp), (h p hp).2.1, fun k he => hs k ((h p hp).2.2 k he)⟩
theorem Own.lt {w : World} {S : Nat → Prop} {base m : Nat} {ks : List KL} (h : Own w S base ks m) {p : KL} (hp : p ∈ ks) {k : Nat} (he : p.1.ownBlock = some k) : k < w.heap.size := ((h p hp).1.lt k he).2
theorem Own.ne_type {w : World} {S : Nat → Prop} {base m : Nat} {ks : List KL} (h : Own w S base ks m) {p : KL} (hp : p ∈ ks) {k : Nat} (he : p.1.ownBlock = some k) {B n size : Nat} {v : Value} {xs : List Value} {e : TypeId} (ho : w.ownsRow B e size v n xs) (hne : 3 ≠ e) : v.ownBlock ≠ some k := by
  intro h2
  rcases ho.2 with ⟨rfl, _⟩ | ⟨g, _, cur, rfl, _, hh, _⟩
  · simp [Value.ownBlock] at h2
  · obtain rfl : g = k := by simpa [Value.ownBlock] using h2
    rcases (h p hp).1.2 with ⟨h3, _⟩ | ⟨g', _, cur', h3, _, hh', _⟩
    · rw [h3] at he; simp [Value.ownBlock] at he
    · rw [h3] at he
      obtain rfl : g' = g := by simpa [Value.ownBlock] using he
      rw [hh] at hh'
      injection hh' with hh'
      injection hh' with _ ht
      exact hne ht.symm
theorem Own.slice {w : World} {S : Nat → Prop} {base m : Nat} {ks : List KL} (h : Own w S base ks m) {p : KL} (hp : p ∈ ks) : ∃ a c, p.1 = .slice a p.2.length c := by
  rcases (h p hp).1.2 with ⟨h3, h4⟩ | ⟨g, c, _, h3, _⟩
  · exact ⟨none, 0, by rw [h3, h4]⟩
  · exact ⟨_, _, h3⟩
theorem own_keep_grown {w w' : World} {B n size : Nat} {v : Value} {xs : List Value} {e : TypeId} {row : Option Nat} (h : w.ownsRow B e size v n xs) (hg : w.grownBy w' row) (hne : ∀ k, v.ownBlock = some k → row ≠ some k) : w'.ownsRow B e size v n xs :=
  own_block h fun k hk => hg.block k (h.lt k hk).2 (fun e => hne k hk e.symm)
namespace BookAt
variable {w w' : World} {S : Nat → Prop} {base b : Nat} {ks ms : List KL} {vI vW : Value}
theorem keep {S' : Nat → Prop} (h : BookAt w S base b ks ms vI vW) (hk : ∀ k, S k → k < w.heap.size → w'.heap[k]? = w.heap[k]?) (hs : ∀ k, S k → S' k) : BookAt w' S' base b ks ms vI vW where
  blk := (hk b h.sb h.blk.lt).trans h.blk
  sb := hs _ h.sb
  nb := h.nb
  oI := own_block h.oI fun k e => hk k (h.sI k e) (h.oI.lt k e).2
  oW := own_block h.oW fun k e => hk k (h.sW k e) (h.oW.lt k e).2
  sI := fun k e => hs k (h.sI k e)
  sW := fun k e => hs k (h.sW k e)
  ne := h.ne
  li := h.li.keep (fun p hp k e => hk k ((h.li p hp).2.2 k e) (h.li.lt hp e)) hs
  lw := h.lw.keep (fun p hp k e => hk k ((h.lw p hp).2.2 k e) (h.lw.lt hp e)) hs
  ap := h.ap
  few := h.few
  few2 := h.few2
theorem drewN (h : BookAt w S base b ks ms vI vW) (n : Nat) : BookAt (w.drewN n) S base b ks ms vI vW := h.keep (fun _ _ _ => rfl) (fun _ h => h)
theorem call (h : BookAt w S base b ks ms vI vW) (hb : Below w.heap.size w w') : BookAt w' S base b ks ms vI vW := h.keep (fun k _ hk => hb.block k hk) (fun _ h => h)
theorem neI (h : BookAt w S base b ks ms vI vW) : some b ≠ vI.ownBlock := own_ne h.oI h.blk (by decide)
theorem neW (h : BookAt w S base b ks ms vI vW) : some b ≠ vW.ownBlock := own_ne h.oW h.blk (by decide)
theorem nep (h : BookAt w S base b ks ms vI vW) {p : KL} (hp : p ∈ ks) {k : Nat} (he : p.1.ownBlock = some k) : b ≠ k := by
  rintro rfl
  exact own_ne (h.li p hp).1 h.blk (by decide) he.symm
theorem nem (h : BookAt w S base b ks ms vI vW) {p : KL} (hp : p ∈ ms) {k : Nat} (he : p.1.ownBlock = some k) : b ≠ k := by
  rintro rfl
  exact own_ne (h.lw p hp).1 h.blk (by decide) he.symm
end BookAt
end Go.Proofs.YtfgpadkoonogpaaDoor.Book
