/- Package sieve: the contract of All; a sieve of the call's own; the first call of package besomlaw1. -/
import Derived.Test.YtjlbmelpoaffpaaDoorSv6
import Derived.OwnWalk
namespace Go.Proofs.YtjlbmelpoaffpaaDoor.Sv
open Go.RowKit Bit Wd
set_option linter.unusedSimpArgs false
set_option linter.unusedVariables false

theorem infoI : (Tryd.prog.info? 3).map (fun i => (i.zero, i.size, i.bytes)) = some (some (.int .i64 0), 1, 8) := by kernel_rfl
def ints (l : List Nat) : List Int := l.map fun (k : Nat) => (k : Int)
theorem ints_len (l : List Nat) : (ints l).length = l.length := by simp [ints]
def nats (l : List Nat) : List Value := (ints l).map (Value.int .i64)
def Lists (l : List Nat) (w : World) (e : Ending) (w' : World) : Prop :=
  ∃ a c, e = .returned (.slice a l.length c) ∧ w'.ownsRow w.heap.size 3 1 (.slice a l.length c) l.length (nats l) ∧ Below w.heap.size w w'
theorem sl_next {p : Nat → Bool} {f j : Nat} (hj : f ≤ j) (hp : p j = true) (hno : ∀ i, f ≤ i → i < j → p i = false) : sl (j + 1) p = sl f p ++ [j] := by
  have h1 : sl (j + 1) p = sl j p ++ [j] := by
    unfold sl
    rw [List.range_succ, List.filter_append]
    simp [hp]
  rw [h1]
  congr 1
  unfold sl
  obtain ⟨d, rfl⟩ : ∃ d, j = f + d := ⟨j - f, by omega⟩
  rw [List.range_add, List.filter_append]
  have : (List.map (fun x => f + x) (List.range d)).filter p = [] := by
    rw [List.filter_eq_nil_iff]
    intro i hi
    obtain ⟨x, hx, rfl⟩ := List.mem_map.1 hi
    have := List.mem_range.1 hx
    rw [hno _ (by omega) (by omega)]
    simp
  rw [this, List.append_nil]
theorem sl_end {p : Nat → Bool} {f n : Nat} (hf : f ≤ n) (hno : ∀ i, f ≤ i → p i = false) : sl n p = sl f p := sl_short hf hno
def left (n : Nat) (v : Value) : Nat := if intOf v < 0 then 0 else n + 1 - (intOf v).toNat
theorem left_neg (n : Nat) : left n (.int .i64 (-1)) = 0 := rfl
theorem left_pos (n j : Nat) : left n (.int .i64 (j : Int)) = n + 1 - j := by
  unfold left
  have h : intOf (.int .i64 (j : Int)) = (j : Int) := rfl
  rw [h, if_neg (by omega)]
  simp
set_option maxHeartbeats 1000000 in
theorem all_any (b g n : Nat) (W : List Nat) (w : World) (h : SieveAt w b g n W) (hT : Tab w) :
    Calls Tryd.prog 19 #[.pointer (some ⟨b, 0, none⟩)] w (Lists (sl n (has W)) w) := by
  have HI0 := Lib.hid (info_parts infoI)
  have H := Lib.hid h
  have HT := Lib.hid hT
  have hn := h.hn
  have HIN := Lib.hid h.inn
  clear h hT
  go_enter Tryd.func19, Tryd.ntmps19
  go_wp2_with fail
  refine (next_any b g n W 0 0 (by decide) (by decide) _ H.out HT.out).mono ?_
  rintro e w1 ⟨r0, rfl, hr0, rfl⟩
  have HR0 := Lib.hid hr0
  clear hr0
  dsimp only
  go_wp2_with fail
  go_loopw [3, 4] (fun l k wr => ∃ (f : Nat) (r : Int) (A : Option Addr) (c : Nat), f ≤ n ∧ k = .int .i64 r ∧ l = .slice A (sl f (has W)).length c ∧ Nxt (has W) f r ∧ Below w.heap.size w wr ∧
    wr.ownsRow w.heap.size 3 1 (.slice A (sl f (has W)).length c) (sl f (has W)).length (nats (sl f (has W)))) (fun _ k _ => left n k)
  case atStart => exact ⟨0, r0, none, 0, Nat.zero_le _, rfl, rfl, HR0.out, Below.refl _ _, World.ownsRow_nil _ _ _ _⟩
  case round =>
    obtain ⟨f, r, A, c, hf, rfl, rfl, hx, hbe, how⟩ := hrel
    have HO := Lib.hid how
    have HBE := Lib.hid hbe
    have hz := hbe.size
    have hll : (sl f (has W)).length ≤ 4096 := by have := sl_len f (has W); omega
    clear hbe how
    rcases hx with ⟨rfl, hno⟩ | ⟨j, rfl, hj1, hj2, hj3⟩
    · have HE := Lib.hid (show sl n (has W) = sl f (has W) from sl_end hf hno)
      go_wp2_with fail
      go_ret
      exact ⟨A, c, by rw [HE.out]; rfl, by rw [HE.out]; exact HO.out, HBE.out⟩
    · have HS := Lib.hid (sl_next hj1 hj2 hj3)
      have hjn := HIN.out j hj2
      have hj4 : (0 : Int) ≤ (j : Int) := by omega
      have hj5 : (j : Int) ≤ 4096 := by omega
      generalize sl f (has W) = L at *
      clear hj3
      go_wp2_with (first
        | (at_builtin; go_loud (refine wpList_app _ rfl _ _ 26 rfl w.heap.size 3 HI0.out.choose (.int .i64 0) 1 8 Tryd.underlying26 HI0.out.choose_spec.1 HI0.out.choose_spec.2.1 HI0.out.choose_spec.2.2.1 HI0.out.choose_spec.2.2.2 rfl (by decide) _ _ _ rfl (HO.out.alloc _) (wr.heap.size + 1) _ 1 1 [.int .i64 (j : Int)] rfl (Blk.reads (Blk.new wr _ _) (by simp) rfl rfl (by decide)) ?g1 ?g2 ?g3 ?g4 ?_))
        | fail)
      case g1 => intro u hu; simp at hu; subst hu; rfl
      case g2 => unfold maxLen; omega
      case g3 => omega
      case g4 => simp; omega
      intro a' c' w2 ho2 hg2 hat2
      have HO2 := Lib.hid (show w2.ownsRow w.heap.size 3 1 (.slice a' (L ++ [j]).length c') (L ++ [j]).length (nats (L ++ [j])) from by simpa [nats, ints] using ho2)
      have HW2 := Lib.hid (show Below w.heap.size w w2 from (fresh_alloc HBE.out _).grown hg2 (by simp; omega) (fun k hk => (HO.out.lt k hk).1))
      have H2 := Lib.hid (H.out.call HW2.out)
      have HT2 := Lib.hid (HT.out.call HW2.out)
      have hll2 : (L ++ [j]).length = L.length + 1 := by simp
      rw [← hll2]
      clear ho2 hg2 hat2
      go_wp2_with fail
      refine (next_any b g n W ((j : Int) + 1) (j + 1) (by omega) (by omega) _ H2.out HT2.out).mono ?_
      rintro e w3 ⟨r3, rfl, hr3, rfl⟩
      have HR3 := Lib.hid hr3
      clear hr3
      dsimp only
      go_wp2_with fail
      go_roundw
      case rel => exact ⟨j + 1, r3, a', c', by omega, rfl, by rw [HS.out], HR3.out, HW2.out, by rw [HS.out]; exact HO2.out⟩
      case measure =>
        rcases HR3.out with ⟨rfl, _⟩ | ⟨i, rfl, h4, _⟩
        · show left n (.int .i64 (-1)) < left n (.int .i64 (j : Int))
          rw [left_neg, left_pos]; omega
        · show left n (.int .i64 (i : Int)) < left n (.int .i64 (j : Int))
          rw [left_pos, left_pos]; omega
/-- A sieve of the call's own. -/
structure SW (w wr : World) (b g n : Nat) (W : List Nat) : Prop where
  sv : SieveAt wr b g n W
  new : w.heap.size ≤ b ∧ w.heap.size ≤ g
  bel : Below w.heap.size w wr
  tab : Tab wr
namespace SW
variable {w wr w' : World} {b g n : Nat} {W W' : List Nat}
theorem call (h : SW w wr b g n W) (hb : Below wr.heap.size wr w') : SW w w' b g n W := ⟨h.sv.call hb, h.new, fresh_call h.bel hb, h.tab.call hb⟩
theorem drewN (h : SW w wr b g n W) (k : Nat) : SW w (wr.drewN k) b g n W := h.call (below_drewN (Below.refl _ _) k)
theorem step (h : SW w wr b g n W) (h0 : 0 < w.heap.size) (hs : SieveAt w' b g n W') (hk : Kept (fun i => i = g) wr w') : SW w w' b g n W' :=
  ⟨hs, h.new, h.bel.trans (hk.below h.bel.size (fun i hi e => by have := h.new.2; omega)), h.tab.kept hk (fun e => by have := h.new.2; omega)⟩
theorem made {e : Ending} (hT : Tab w) (h : Made w n e w') : ∃ b g, e = .returned (.pointer (some ⟨b, 0, none⟩)) ∧ SW w w' b g n (List.replicate ((n + 63) / 64) 0) := by
  obtain ⟨b, g, rfl, hs, h1, h2, hb⟩ := h
  exact ⟨b, g, rfl, hs, ⟨h1, h2⟩, hb, hT.call hb⟩
end SW
end Go.Proofs.YtjlbmelpoaffpaaDoor.Sv
