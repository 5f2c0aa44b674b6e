/- The builtins copy and append as steps of a region that draws its order, over my Reads and Blk. Over any program. -/
import Derived.Test.YtoajbjeiplolnaaDoorRApp
import Derived.Laws.CopyOwn
import Derived.Deep.RegionLaw
namespace Go.Proofs.YtoajbjeiplolnaaDoorR
open Go.RowKit

theorem reads_take {w : World} {B n c m : Nat} {A : Option Addr} {xs : List Value} (h : Reads w B 1 A n c xs) (hm : m ≤ n) : Reads w B 1 A m c (xs.take m) := by
  refine ⟨by have := h.1; omega, h.2.1, by have := h.2.2.1; simp; omega, fun hp => ?_⟩
  obtain ⟨b, off, e, hb, hc⟩ := h.2.2.2 (by omega)
  refine ⟨b, off, e, hb, fun j u hu => hc j u ?_⟩
  rw [List.getElem?_take] at hu
  split at hu
  · exact hu
  · cases hu

section
variable {P : Program} (w : World)
theorem run_cp (dT sT ty elem : TypeId) (hu : P.underlying dT = some (.slice elem)) (hs : (P.info? elem).map (·.size) = some 1)
    (g o dLen dCap : Nat) (cur : Array Value) (t : TypeId) (hg : Blk w g cur t) (A : Option Addr) (sLen sCap B : Nat) (xs : List Value) (hr : Reads w B 1 A sLen sCap xs) (h1 : ∀ u ∈ xs, u.oneCell' = true)
    (m : Nat) (hm : m = Nat.min sLen dLen) (hfit : o + m ≤ cur.size) :
    ∃ w', (Builtin.copy_ #[dT, sT] ty #[.slice (some ⟨g, o, none⟩) dLen dCap, .slice A sLen sCap]).run P w = .ok (.int .i64 m) w' ∧
      Blk w' g (cur.toList.take o ++ xs.take m ++ cur.toList.drop (o + m)).toArray t ∧ w.grownBy w' (some g) := by
  have hlen : (xs.take m).length = m := by
    have := hr.2.2.1
    have : m ≤ sLen := by rw [hm]; exact Nat.min_le_left _ _
    simp; omega
  by_cases h0 : m = 0
  · subst h0
    refine ⟨w, run_copy_none (P := P) w dT sT ty elem _ A dLen dCap sLen sCap hu hs hm.symm, ?_, World.grownBy.refl w _⟩
    refine Blk.of_eq hg ?_
    simp
  · have hs0 : 0 < sLen := by
      have : m ≤ sLen := by rw [hm]; exact Nat.min_le_left _ _
      omega
    obtain ⟨b, off, rfl, hb, hc⟩ := hr.2.2.2 hs0
    have hsrc : ∀ j v, (xs.take m)[j]? = some v → w.cell? ((⟨b, off, none⟩ : Addr).add j) = some v := by
      intro j v hv
      rw [add_form]
      refine hc j v ?_
      rw [List.getElem?_take] at hv
      split at hv
      · exact hv
      · cases hv
    have hg' : w.heap[g]? = some (.cells cur t (0, 0)) := hg
    have hrun := run_copy_row (P := P) w dT sT ty elem g o dLen dCap ⟨b, off, none⟩ sLen sCap cur t (xs.take m) hu hs hg' (by rw [hlen, hm]) hsrc (by rw [hlen]; exact hfit) (fun u hu => h1 u (List.mem_of_mem_take hu))
    rw [hlen] at hrun
    exact ⟨_, hrun, setRow_heap w g cur _ t _ hg', ⟨rfl, rfl, rfl, by simp, fun k _ hk => setRow_other w g k _ (fun e => hk (by rw [e]))⟩⟩

theorem step_cp {ops : Array Oper} {o : Oper} {a : Act} {K : Act → World → Prop} {Q : Exit → Act → World → Prop} {E : Prop} (hgd : o.guard = none) (d s : Operand) (dT sT : TypeId)
    (ho : o.op = .call { callee := .builtin .copy, args := #[d, s], argTypes := #[dT, sT] }) (elem : TypeId) (hu : P.underlying dT = some (.slice elem)) (hsz : (P.info? elem).map (·.size) = some 1)
    (g off dLen dCap : Nat) (hd : a.eval d = .slice (some ⟨g, off, none⟩) dLen dCap) (cur : Array Value) (t : TypeId) (hg : Blk w g cur t)
    (A : Option Addr) (sLen sCap B : Nat) (hs : a.eval s = .slice A sLen sCap) (xs : List Value) (hr : Reads w B 1 A sLen sCap xs) (h1 : ∀ u ∈ xs, u.oneCell' = true) (m : Nat) (hm : m = Nat.min sLen dLen) (hfit : off + m ≤ cur.size)
    (h : ∀ w', Blk w' g (cur.toList.take off ++ xs.take m ++ cur.toList.drop (off + m)).toArray t → w.grownBy w' (some g) → K (a.put o.dst (.int .i64 m)) w') :
    if Region.wanted o (yielded ops a.tmps) = true then Oper.wp P o a w K Q else E := by
  have hw : Region.wanted o (yielded ops a.tmps) = true := by simp [Region.wanted, hgd]
  rw [if_pos hw]
  obtain ⟨w', hrun, r1, r2⟩ := run_cp (P := P) w dT sT o.type elem hu hsz g off dLen dCap cur t hg A sLen sCap B xs hr h1 m hm hfit
  unfold Oper.wp
  simp [execOp, ho, resolve, invoke, builtin, hd, hs, hrun, Result.andThen]
  exact h w' r1 r2

theorem wpList_cp {ops : Array Oper} {rest : List Oper} {o : Oper} {a : Act} {Q : Exit → Act → World → Prop} (hgd : o.guard = none) (d s : Operand) (dT sT : TypeId)
    (ho : o.op = .call { callee := .builtin .copy, args := #[d, s], argTypes := #[dT, sT] }) (elem : TypeId) (hu : P.underlying dT = some (.slice elem)) (hsz : (P.info? elem).map (·.size) = some 1)
    (g off dLen dCap : Nat) (hd : a.eval d = .slice (some ⟨g, off, none⟩) dLen dCap) (cur : Array Value) (t : TypeId) (hg : Blk w g cur t)
    (A : Option Addr) (sLen sCap B : Nat) (hs : a.eval s = .slice A sLen sCap) (xs : List Value) (hr : Reads w B 1 A sLen sCap xs) (h1 : ∀ u ∈ xs, u.oneCell' = true) (m : Nat) (hm : m = Nat.min sLen dLen) (hfit : off + m ≤ cur.size)
    (h : ∀ w', Blk w' g (cur.toList.take off ++ xs.take m ++ cur.toList.drop (off + m)).toArray t → w.grownBy w' (some g) → wpList P ops Q rest (a.put o.dst (.int .i64 m)) w') : wpList P ops Q (o :: rest) a w := by
  refine wpList_plain hgd fun K hK => ?_
  obtain ⟨w', hrun, r1, r2⟩ := run_cp (P := P) w dT sT o.type elem hu hsz g off dLen dCap cur t hg A sLen sCap B xs hr h1 m hm hfit
  unfold Oper.wp
  simp [execOp, ho, resolve, invoke, builtin, hd, hs, hrun, Result.andThen]
  exact hK _ _ (h w' r1 r2)

theorem step_app {ops : Array Oper} {o : Oper} {a : Act} {K : Act → World → Prop} {Q : Exit → Act → World → Prop} {E : Prop} (hgd : o.guard = none) (s x : Operand) (t : TypeId)
    (ho : o.op = .call { callee := .builtin .append, args := #[s, x], argTypes := #[t, t] })
    (base : Nat) (e : TypeId) (i : TypeInfo) (z : Value) (size bytes : Nat) (ht : P.underlying t = some (.slice e)) (hi : P.info? e = some i) (hz : i.zero = some z)
    (hsize : i.size = size) (hby : i.bytes = bytes) (hzs : z.cells.size = size) (hsz : 0 < size)
    (v : Value) (n : Nat) (xs : List Value) (hs : a.eval s = v) (hown : w.ownsRow base e size v n xs)
    (B : Nat) (A : Option Addr) (m c : Nat) (news : List Value) (hx : a.eval x = .slice A m c) (hr : Reads w B size A m c news) (h1 : ∀ u ∈ news, u.oneCell' = true)
    (h63 : n + m ≤ maxLen) (hbytes : (n + m) * bytes ≤ 140737488355328) (hbase : base ≤ w.heap.size)
    (h : ∀ a' c' w', w'.ownsRow base e size (.slice a' (n + m) c') (n + m) (xs ++ news) → w.grownBy w' v.ownBlock → ((Value.slice a' (n + m) c').ownBlock = v.ownBlock ∨ (Value.slice a' (n + m) c').ownBlock = some w.heap.size) → K (a.put o.dst (.slice a' (n + m) c')) w') :
    if Region.wanted o (yielded ops a.tmps) = true then Oper.wp P o a w K Q else E := by
  have hw : Region.wanted o (yielded ops a.tmps) = true := by simp [Region.wanted, hgd]
  rw [if_pos hw]
  exact wp_app w s x t ho base e i z size bytes ht hi hz hsize hby hzs hsz v n xs hs hown B A m c news hx hr h1 h63 hbytes hbase h
end
end Go.Proofs.YtoajbjeiplolnaaDoorR
