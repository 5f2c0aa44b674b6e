/- Package stack: the contract of Clear. -/
import Derived.Test.YtpdleckflcangaaStkA
namespace Go.Proofs.Ytpdleckflcangaa.Stk
open Go.RowKit
set_option linter.unusedSimpArgs false
set_option linter.unusedVariables false

/-- What stands there behind Clear. -/
def clr (ws : List Int) (o n : Nat) : List Int := ws.take o ++ List.replicate n 0 ++ ws.drop (o + n)
theorem clr_length (ws : List Int) (o n : Nat) (h : o + n ≤ ws.length) : (clr ws o n).length = ws.length := by
  simp [clr]; omega
theorem clr_cells (ws : List Int) (o n : Nat) : ((cells ws).toList.take o ++ List.replicate n (Value.int .i64 0) ++ (cells ws).toList.drop (o + n)).toArray = cells (clr ws o n) := by
  simp [cells, clr]

theorem run_clear_ints {P : Program} (w : World) (t e ty : TypeId) (ht : P.underlying t = some (.slice e)) (hv : ∀ w, (zeroValue e).run P w = .ok (.int .i64 0) w) (g o n c : Nat) (hn : 0 < n) (ws : List Int) (T : TypeId) (hg : Blk w g (cells ws) T) (hfit : o + n ≤ ws.length) :
    ∃ w', (Builtin.clear_ #[t] ty #[.slice (some ⟨g, o, none⟩) n c]).run P w = .ok (.tuple #[]) w' ∧ Blk w' g (cells (clr ws o n)) T ∧ w.grownBy w' (some g) := by
  have hzc : (Builtin.zeroCells (Value.int .i64 0).cells n).toList = List.replicate n (Value.int .i64 0) := by
    rw [show (Value.int .i64 0).cells = #[Value.int .i64 0] from rfl]
    simp [Builtin.zeroCells]
    apply List.ext_getElem
    · simp
    · intro i h1 h2
      simp [Nat.mod_one]
  have hst := run_storeCells_at P g o T (List.replicate n (Value.int .i64 0)) 0 (cells ws) w hg (by rw [List.length_replicate, cells_size]; omega) (by intro v hv'; rw [List.eq_of_mem_replicate hv']; rfl)
  simp only [Nat.add_zero, List.length_replicate] at hst
  obtain ⟨m, rfl⟩ : ∃ m, n = m + 1 := ⟨n - 1, by omega⟩
  refine ⟨w.setRow g ((cells ws).toList.take o ++ List.replicate (m + 1) (Value.int .i64 0) ++ (cells ws).toList.drop (o + (m + 1))).toArray, by simp [Builtin.clear_, run_underlying ht, hv, hzc, hst], ?_, ⟨rfl, rfl, rfl, by simp, fun k _ hk => setRow_other w g k _ (fun e => hk (by rw [e]))⟩⟩
  rw [← clr_cells]
  exact setRow_heap w g (cells ws) _ T _ hg

theorem wpList_clear_ints {P : Program} (w : World) {ops : Array Oper} {rest : List Oper} {o : Oper} {a : Act} {Q : Exit → Act → World → Prop} (hgd : o.guard = none) (s : Operand) (t : TypeId)
    (ho : o.op = .call { callee := .builtin .clear, args := #[s], argTypes := #[t] }) (e : TypeId) (ht : P.underlying t = some (.slice e)) (hv : ∀ w, (zeroValue e).run P w = .ok (.int .i64 0) w)
    (g off n c : Nat) (hn : 0 < n) (ws : List Int) (T : TypeId) (hg : Blk w g (cells ws) T) (hfit : off + n ≤ ws.length) (hs : a.eval s = .slice (some ⟨g, off, none⟩) n c)
    (h : ∀ w', Blk w' g (cells (clr ws off n)) T → w.grownBy w' (some g) → wpList P ops Q rest (a.put o.dst (.tuple #[])) w') : wpList P ops Q (o :: rest) a w := by
  refine wpList_plain hgd fun K hK => ?_
  obtain ⟨w', hrun, h1, h2⟩ := run_clear_ints (P := P) w t e o.type ht hv g off n c hn ws T hg hfit
  unfold Oper.wp
  simp [execOp, ho, resolve, invoke, builtin, hs, hrun, Result.andThen]
  exact hK _ _ (h _ h1 h2)

set_option maxHeartbeats 1000000 in
theorem clear_no (b g : Nat) (base : Int) (ws : List Int) (f t : Int) (w : World) (h : StackAt w b g base ws) (hft : ¬ max f 0 < min t ws.length) :
    Calls Try.prog 38 #[.pointer (some ⟨b, 0, none⟩), .int .i64 f, .int .i64 t] w fun e w' => e = .returned (.tuple #[]) ∧ w = w' := by
  have H := Lib.hid h
  clear h
  go_enter Try.func38, Try.ntmps38
  go_wp2_with (first
    | (go_at_call 35; refine (words_any _ _ _ _ _ H.out).mono ?_; rintro e w1 ⟨rfl, rfl⟩; dsimp only)
    | fail)
  all_goals
    go_end0
    exact ⟨rfl, rfl⟩
set_option maxHeartbeats 1000000 in
theorem clear_yes (b g : Nat) (base : Int) (ws : List Int) (f t : Int) (lo n : Nat) (w : World) (h : StackAt w b g base ws) (hlo : max f 0 = (lo : Int)) (hhi : min t ws.length = (lo : Int) + (n : Int)) (hn : 0 < n) :
    Calls Try.prog 38 #[.pointer (some ⟨b, 0, none⟩), .int .i64 f, .int .i64 t] w fun e w' => e = .returned (.tuple #[]) ∧ StackAt w' b g base (clr ws lo n) ∧ w.grownBy w' (some g) := by
  obtain ⟨c0, c1, f0, f1⟩ := h.1.two
  have hfit : lo + n ≤ ws.length := by omega
  have H := Lib.hid h
  have HF := Lib.hid hfit
  have HZ : ∀ w, (zeroValue 3).run Try.prog w = .ok (.int .i64 0) w := fun w => by kernel_rfl
  have HZ := Lib.hid HZ
  clear h hfit
  have fin : ∀ w', Blk w' g (cells (clr ws lo n)) 3 → w.grownBy w' (some g) → StackAt w' b g base (clr ws lo n) ∧ w.grownBy w' (some g) := by
    intro w' h1 h2
    have hl := clr_length ws lo n HF.out
    refine ⟨⟨?_, h1, by rw [hl]; exact H.out.2.2.1, by rw [hl]; exact H.out.2.2.2⟩, h2⟩
    rw [hl]
    obtain ⟨_, _, _, _, h5⟩ := h2
    exact (h5 b H.out.1.lt (fun e => H.out.ne (Option.some.inj e))).trans H.out.1
  have FIN := Lib.hid fin
  clear fin
  have cf : (f < 0 ∧ lo = 0) ∨ (f = (lo : Int)) := by omega
  have ct : (t = ((lo + n : Nat) : Int)) ∨ ((ws.length : Int) < t ∧ ws.length = lo + n) := by omega
  clear hlo hhi
  have HN := Lib.hid hn
  rcases cf with ⟨hf, rfl⟩ | rfl
  · rcases ct with rfl | ⟨ht, hl⟩
    · have hA : ¬ ((ws.length : Int) < (n : Int)) := by have := HF.out; omega
      have hn0 : (0 : Int) < (n : Int) := by omega
      rw [Nat.zero_add]
      go_enter Try.func38, Try.ntmps38
      go_wp2_with (first
        | (go_at_call 35; refine (words_any _ _ _ _ _ H.out).mono ?_; rintro e w1 ⟨rfl, rfl⟩; dsimp only)
        | (refine wpList_clear_ints _ rfl (.tmp 21) 46 rfl 3 Try.underlying46 HZ.out g 0 n ws.length HN.out ws 3 H.out.2.1 HF.out ?d5 ?_)
        | fail)
      intro w' h1 h2
      go_wp2_with fail
      go_end0
      exact ⟨rfl, FIN.out w' h1 h2⟩

    · obtain rfl : n = ws.length := by omega
      have hn0 : (0 : Int) < (ws.length : Int) := by omega
      clear hl
      go_enter Try.func38, Try.ntmps38
      go_wp2_with (first
        | (go_at_call 35; refine (words_any _ _ _ _ _ H.out).mono ?_; rintro e w1 ⟨rfl, rfl⟩; dsimp only)
        | (refine wpList_clear_ints _ rfl (.tmp 21) 46 rfl 3 Try.underlying46 HZ.out g 0 ws.length ws.length HN.out ws 3 H.out.2.1 HF.out ?d6 ?_)
        | fail)
      case d6 => first | rfl | (simp [Act.eval, Act.put]; done) | (simp [Act.eval, Act.put]; omega)
      intro w' h1 h2
      go_wp2_with fail
      go_end0
      exact ⟨rfl, FIN.out w' h1 h2⟩

  · rcases ct with rfl | ⟨ht, hl⟩
    · have hA : ¬ ((ws.length : Int) < (lo : Int) + (n : Int)) := by have := HF.out; omega
      have hlo0 : ¬ ((lo : Int) < 0) := by omega
      have hll : (lo : Int) < (lo : Int) + (n : Int) := by omega
      rw [show ((lo + n : Nat) : Int) = (lo : Int) + (n : Int) by omega]
      go_enter Try.func38, Try.ntmps38
      go_wp2_with (first
        | (go_at_call 35; refine (words_any _ _ _ _ _ H.out).mono ?_; rintro e w1 ⟨rfl, rfl⟩; dsimp only)
        | (refine wpList_clear_ints _ rfl (.tmp 21) 46 rfl 3 Try.underlying46 HZ.out g lo n (ws.length - lo) HN.out ws 3 H.out.2.1 HF.out ?d7 ?_)
        | fail)
      intro w' h1 h2
      go_wp2_with fail
      go_end0
      exact ⟨rfl, FIN.out w' h1 h2⟩

    · obtain rfl : n = ws.length - lo := by omega
      have hlo0 : ¬ ((lo : Int) < 0) := by omega
      have hll : (lo : Int) < (ws.length : Int) := by omega
      clear hl
      go_enter Try.func38, Try.ntmps38
      go_wp2_with (first
        | (go_at_call 35; refine (words_any _ _ _ _ _ H.out).mono ?_; rintro e w1 ⟨rfl, rfl⟩; dsimp only)
        | (refine wpList_clear_ints _ rfl (.tmp 21) 46 rfl 3 Try.underlying46 HZ.out g lo (ws.length - lo) (ws.length - lo) HN.out ws 3 H.out.2.1 HF.out ?d8 ?_)
        | fail)
      intro w' h1 h2
      go_wp2_with fail
      go_end0
      exact ⟨rfl, FIN.out w' h1 h2⟩

end Go.Proofs.Ytpdleckflcangaa.Stk
