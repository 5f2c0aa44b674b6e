/- Package unwind: the contract of slices.Delete at alarms, one of which is taken out. (Printed by a program of mine.) -/
import Derived.Test.YtjlbmelpoaffpaaUnw9
import Derived.Deep.RegionLaw
namespace Go.Proofs.Ytjlbmelpoaffpaa.Unw
open Go.RowKit
set_option linter.unusedSimpArgs false
set_option linter.unusedVariables false

theorem ac_append (p l : List Al) : ac (p ++ l) = ac l ++ ac p := by
  induction p with
  | nil => simp [ac]
  | cons x p ih => simp [ac, ih]

section
variable {P : Program} (w : World)
theorem run_clear_row (t e ty : TypeId) (z : Value) (size : Nat) (ht : P.underlying t = some (.slice e)) (hv : ∀ w, (zeroValue e).run P w = .ok z w) (hz : z.cells.size = size) (h1 : ∀ u ∈ z.cells.toList, u.oneCell' = true) (g o n c : Nat) (hn : 0 < n) (cur : Array Value) (T : TypeId) (hg : Blk w g cur T)
    (hfit : o + n * size ≤ cur.size) : ∃ cs : List Value, cs.length = n * size ∧ (Builtin.clear_ #[t] ty #[.slice (some ⟨g, o, none⟩) n c]).run P w = .ok (.tuple #[]) (w.setRow g (cur.toList.take o ++ cs ++ cur.toList.drop (o + n * size)).toArray) := by
  have hl : (Builtin.zeroCells z.cells n).toList.length = n * size := by rw [Array.length_toList, size_zeroCells, hz]
  have ho : ∀ u ∈ (Builtin.zeroCells z.cells n).toList, u.oneCell' = true := by
    intro u hu
    obtain ⟨i, hi, rfl⟩ := List.getElem_of_mem hu
    simp only [Array.getElem_toList, Builtin.zeroCells, Array.getElem_ofFn]
    refine h1 _ ?_
    rw [hl] at hi
    have hs : 0 < z.cells.size := by rw [hz]; rcases Nat.eq_zero_or_pos size with h0 | h0
                                     · subst h0; simp at hi
                                     · exact h0
    have hm : i % z.cells.size < z.cells.size := Nat.mod_lt _ hs
    first
      | (simp [hm]; done)
      | (rw [Array.mem_toList_iff]; simp [Array.getD, hm])
  have hst := run_storeCells_at P g o T (Builtin.zeroCells z.cells n).toList 0 cur w hg (by rw [hl]; simpa using hfit) ho
  simp only [Nat.add_zero, hl] at hst
  obtain ⟨m, rfl⟩ : ∃ m, n = m + 1 := ⟨n - 1, by omega⟩
  refine ⟨_, hl, ?_⟩
  simp [Builtin.clear_, run_underlying ht, hv, hst]

theorem wpList_clear_own {ops : Array Oper} {rest : List Oper} {o : Oper} {a : Act} {Q : Exit → Act → World → Prop} (hgd : o.guard = none) (s : Operand) (t : TypeId)
    (ho : o.op = .call { callee := .builtin .clear, args := #[s], argTypes := #[t] }) (e : TypeId) (z : Value) (size : Nat) (ht : P.underlying t = some (.slice e)) (hv : ∀ w, (zeroValue e).run P w = .ok z w) (hz : z.cells.size = size) (h1 : ∀ u ∈ z.cells.toList, u.oneCell' = true)
    (base g n cap : Nat) (xs : List Value) (hown : w.ownsRow base e size (.slice (some ⟨g, 0, none⟩) n cap) n xs) (k c : Nat) (hk : 0 < k) (hfit : n + k ≤ cap) (off : Nat) (hoff : off = n * size) (hs : a.eval s = .slice (some ⟨g, off, none⟩) k c)
    (h : ∀ w', w'.ownsRow base e size (.slice (some ⟨g, 0, none⟩) n cap) n xs → w.grownBy w' (some g) → wpList P ops Q rest (a.put o.dst (.tuple #[])) w') : wpList P ops Q (o :: rest) a w := by
  subst hoff
  refine wpList_plain hgd fun K hK => ?_
  rcases hown.2 with ⟨he, _⟩ | ⟨g', cap', cur, he, hb, hh, hn, hm, hsz, htk⟩
  · simp at he
  · simp only [Value.slice.injEq, Option.some.injEq, Addr.mk.injEq, and_true, true_and] at he
    obtain ⟨rfl, rfl⟩ := he
    have hf : n * size + k * size ≤ cur.size := by rw [hsz, ← Nat.add_mul]; exact Nat.mul_le_mul_right _ hfit
    obtain ⟨cs, hcl, hrun⟩ := run_clear_row (P := P) w t e o.type z size ht hv hz h1 g (n * size) k c hk cur e hh hf
    unfold Oper.wp
    simp [execOp, ho, resolve, invoke, builtin, hs, hrun, Result.andThen]
    refine hK _ _ (h _ ⟨hown.1, .inr ⟨g, cap, _, rfl, hb, setRow_heap w g cur _ e _ hh, hn, hm, ?_, ?_⟩⟩ ⟨rfl, rfl, rfl, by simp, fun k _ hk => setRow_other w g k _ (fun e => hk (by simp [e]))⟩)
    · simp only [List.size_toArray, List.length_append, List.length_take, List.length_drop, Array.length_toList, hcl]
      omega
    · show List.take (n * size) (cur.toList.take (n * size) ++ (cs ++ cur.toList.drop (n * size + k * size))) = xs
      rw [List.take_append_of_le_length (by rw [List.length_take]; simp; omega), List.take_take, Nat.min_self]
      exact htk

theorem step_fits {ops : Array Oper} {o : Oper} {a : Act} {K : Act → World → Prop} {Q : Exit → Act → World → Prop} {E : Prop} (hgd : o.guard = none) (s x : Operand) (t : TypeId)
    (ho : o.op = .call { callee := .builtin .append, args := #[s, x], argTypes := #[t, t] })
    (base : Nat) (e : TypeId) (i : TypeInfo) (size : Nat) (ht : P.underlying t = some (.slice e)) (hi : P.info? e = some i) (hsize : i.size = size)
    (g n cap : Nat) (xs : List Value) (hs : a.eval s = .slice (some ⟨g, 0, none⟩) n cap) (hown : w.ownsRow base e size (.slice (some ⟨g, 0, none⟩) n cap) n xs)
    (ad : Addr) (m c : Nat) (news : List Value) (hx : a.eval x = .slice (some ad) m c) (hl : news.length = m * size) (hnews : ∀ j u, news[j]? = some u → w.cell? (ad.add j) = some u) (h1 : ∀ u ∈ news, u.oneCell' = true) (hroom : n + m ≤ cap)
    (h : ∀ w', w'.ownsRow base e size (.slice (some ⟨g, 0, none⟩) (n + m) cap) (n + m) (xs ++ news) → w.grownBy w' (some g) → K (a.put o.dst (.slice (some ⟨g, 0, none⟩) (n + m) cap)) w') :
    if Region.wanted o (yielded ops a.tmps) = true then Oper.wp P o a w K Q else E := by
  have hw : Region.wanted o (yielded ops a.tmps) = true := by simp [Region.wanted, hgd]
  rw [if_pos hw]
  obtain ⟨w', hrun, h2, h3⟩ := run_append_fits (P := P) w base t o.type e i size ht hi hsize g n cap xs hown ad m c news hl hnews h1 hroom
  unfold Oper.wp
  simp [execOp, ho, resolve, invoke, builtin, hs, hx, hrun, Result.andThen]
  exact h w' h2 h3
end

/-- One alarm is taken out. -/
def Taken (B g n c : Nat) (p s : List Al) (w : World) (e : Ending) (w' : World) : Prop :=
  e = .returned (.slice (some ⟨g, 0, none⟩) (s.length + p.length) c) ∧ w'.ownsRow B 32 5 (.slice (some ⟨g, 0, none⟩) (s.length + p.length) c) (s.length + p.length) (ac (p ++ s)) ∧ w.grownBy w' (some g)

set_option maxHeartbeats 1000000 in
theorem delete_any (w : World) (B g c n : Nat) (p : List Al) (b : Al) (s : List Al) (hn : n = s.length + 1 + p.length) (hp : 0 < p.length) (hn2 : n ≤ 1000) (h : w.ownsRow B 32 5 (.slice (some ⟨g, 0, none⟩) n c) n (ac (p ++ b :: s))) :
    Calls Try.prog 27 #[.slice (some ⟨g, 0, none⟩) n c, .int .i64 s.length, .int .i64 ((s.length : Int) + 1)] w (Taken B g n c p s w) := by
  obtain ⟨i0, hi0, hz0, hz1, hz2⟩ := info_parts infoA
  have hcc : n ≤ c ∧ c ≤ maxLen := by
    rcases h.2 with ⟨he, _⟩ | ⟨g', cap, cur, he, hb, hh, hnc, hm, hs, ht⟩
    · simp at he
    · simp only [Value.slice.injEq, Option.some.injEq, Addr.mk.injEq, and_true, true_and] at he
      obtain ⟨_, rfl⟩ := he
      exact ⟨hnc, hm⟩
  have hsn : s.length ≤ n := by omega
  have hfront := own_cut (m := s.length) (ys := ac s) h hsn (by rw [ac_append, ac]; simp [← ac_length, List.append_assoc])
  have hsrc : ∀ j u, (ac p)[j]? = some u → w.cell? ((⟨g, (s.length + 1) * 5, none⟩ : Addr).add j) = some u := by
    intro j u hu
    have hj := (List.getElem?_eq_some_iff.1 hu).1
    rw [ac_length] at hj
    rw [add_form, h.cellAt _ (by omega), ac_append, List.getElem?_append_right (by rw [ac_length]; simp), ac_length]
    simpa using hu
  have HF := Lib.hid (show w.drew.ownsRow B 32 5 (.slice (some ⟨g, 0, none⟩) s.length c) s.length (ac s) from hfront)
  have HS := Lib.hid (show ∀ j u, (ac p)[j]? = some u → w.drew.cell? ((⟨g, (s.length + 1) * 5, none⟩ : Addr).add j) = some u from hsrc)
  have HI := Lib.hid (⟨hi0, hz1⟩ : Try.prog.info? 32 = some i0 ∧ i0.size = 5)
  obtain ⟨hcc1, hcc2⟩ := hcc
  have hc63 : c ≤ 9223372036854775807 := by unfold maxLen at hcc2; omega
  have hN := Lib.hid hn
  have g0 : (0 : Int) ≤ (s.length : Int) := by omega
  have g1 : (s.length : Int) + 1 ≤ (n : Int) := by omega
  have g2 : (n : Int) ≤ (c : Int) := by omega
  have g3 : (s.length : Int) ≤ (c : Int) := by omega
  have g4 : ((s.length : Int) == (s.length : Int) + 1) = false := by simp; omega
  have g5 : (s.length : Int) ≤ (s.length : Int) + 1 := by omega
  have g6 : (0 : Int) ≤ (s.length : Int) + 1 := by omega
  have hpp := Lib.hid hp
  clear h hfront hsrc hi0 hz0 hz1 hz2 hn hcc2 hp
  go_enter Try.func27, Try.ntmps27
  go_wp2_with fail
  have g7 : IntKind.i64.wrap ((s.length : Int) + 1) = (s.length : Int) + 1 := IntWalk.i64_in _ (by omega)
  have g8 : ((s.length : Int) + 1).toNat = s.length + 1 := by omega
  have g9 : ¬ c = s.length + 1 := by have := hN.out; have := hpp.out; omega
  go_region_law (refine step_fits w.drew rfl (.tmp 22) (.tmp 25) 24 rfl B 32 i0 5 Try.underlying24 HI.out.1 HI.out.2 g s.length c (ac s) (by simp [Act.eval, Act.put, g9]) HF.out ⟨g, (s.length + 1) * 5, none⟩ (n - (s.length + 1)) (c - (s.length + 1)) (ac p) (by simp [Act.eval, Act.put, g9]) (by rw [ac_length]; have := hN.out; omega) HS.out (ac_one p) (by omega) ?_; intro w' ho' hg'; have HO' := Lib.hid ho'; have HG' := Lib.hid hg'; clear ho' hg')
  have hm : s.length + (n - (s.length + 1)) = s.length + p.length := by have := hN.out; omega
  have HO2 := Lib.hid (show w'.ownsRow B 32 5 (.slice (some ⟨g, 0, none⟩) (s.length + p.length) c) (s.length + p.length) (ac (p ++ s)) from by rw [ac_append, ← hm]; exact HO'.out)
  have HV := Lib.hid (show ∀ w : World, (zeroValue 32).run Try.prog w = .ok (.agg #[.int .i64 0, .int .i64 0, .int .i64 0, .bool false, .bool false]) w from fun w => by kernel_rfl)
  rw [hm]
  have hlen : n = s.length + p.length + 1 := by have := hN.out; omega
  clear hm HO'
  subst hlen
  go_wp2_with (refine wpList_clear_own _ rfl (.tmp 31) 24 rfl 32 _ 5 Try.underlying24 HV.out rfl ?d1 B g (s.length + p.length) c (ac (p ++ s)) HO2.out _ _ ?d2 ?d3 _ rfl rfl ?_)
  case d1 => exact fun u hu => ac_one [⟨0, 0, 0, false, false⟩] u hu
  case d2 => omega
  case d3 => omega
  intro w2 ho2 hg2
  have HO3 := Lib.hid ho2
  have HG2 := Lib.hid hg2
  clear ho2 hg2
  go_wp2_with fail
  go_ret
  have hgg := HG'.out.trans HG2.out
  exact ⟨rfl, HO3.out, ⟨hgg.os, hgg.tape, hgg.output, hgg.size, hgg.block⟩⟩
end Go.Proofs.Ytjlbmelpoaffpaa.Unw
