/- Package arena: the walk of All. -/
import Derived.Test.YtoajbjeiplolnaaDoorRAr8
namespace Go.Proofs.YtoajbjeiplolnaaDoorR.Ar
open Go.RowKit Pg
set_option linter.unusedSimpArgs false
set_option linter.unusedVariables false

theorem take_one {l : List Int} {m : Nat} {x : Int} (h : l[m]? = some x) : l.take (m + 1) = l.take m ++ [x] := by rw [List.take_add_one, h]; rfl
def lst : Option PM → List Nat
  | none => []
  | some p => Bit.bl p.U
theorem page_all {p : Option PM} {w : World} (h : ∀ q, p = some q → PageAt w q.b q.c q.n q.U q.M) (hT : Tab w) : Calls Tryd.prog 76 #[ptr p] w (Lists (lst p) w) := by
  rcases p with _ | p
  · refine (Pg.all_nil _).mono ?_
    rintro e w1 ⟨rfl, rfl⟩
    exact ⟨none, 0, rfl, World.ownsRow_nil _ _ _ _, Below.refl _ _⟩
  · exact Pg.all_any _ _ _ _ _ _ (h p rfl) hT
theorem lst_len (p : Option PM) : (lst p).length ≤ 32 := by
  cases p with
  | none => simp [lst]
  | some p => exact Bit.sl_len 32 p.U.testBit
theorem begins_lst {ps : List (Option PM)} {j : Nat} {p : Option PM} (h : ps[j]? = some p) : begins ps j = (lst p).map fun (s : Nat) => base ps j (s : Int) := by
  unfold begins
  rw [get_nat, h]
  cases p <;> rfl
set_option maxHeartbeats 1000000 in
theorem all_any (b gp gw : Nat) (ps : List (Option PM)) (ws : List Int) (w : World) (h : ArenaAt w b gp gw ps ws) (hT : Tab w) :
    Calls Tryd.prog 25 #[.pointer (some ⟨b, 0, none⟩)] w (ListsI (allOf ps ps.length) w) := by
  obtain ⟨i0, hi0, hz0, hz1, hz2⟩ := info_parts infoI
  have HI := Lib.hid (⟨hi0, hz0, hz1, hz2⟩ : Tryd.prog.info? 3 = some i0 ∧ i0.zero = some (.int .i64 0) ∧ i0.size = 1 ∧ i0.bytes = 8)
  have HT := Lib.hid hT
  have H := Lib.hid h
  have hn := h.hn
  obtain ⟨c0, c1, f0, f1⟩ := h.blk.two
  clear hi0 hz0 hz1 hz2 hT h
  go_enter Tryd.func25, Tryd.ntmps25
  go_wp2_with fail
  clear c0 c1 f0 f1
  go_loopw [3, 15] (fun v i wr => ∃ (j : Nat) (a : Option Addr) (c : Nat), j ≤ ps.length ∧ i = .int .i64 j ∧ v = .slice a (allOf ps j).length c ∧ wr.ownsRow w.heap.size 3 1 (.slice a (allOf ps j).length c) (allOf ps j).length (ints' (allOf ps j)) ∧ Below w.heap.size w wr) (fun _ i _ => ps.length - (intOf i).toNat)
  case atStart => exact ⟨0, none, 0, Nat.zero_le _, rfl, rfl, World.ownsRow_nil _ _ _ _, Below.refl _ _⟩
  case round =>
    obtain ⟨j, a, c, hj, rfl, rfl, ho, hb⟩ := hrel
    have HO := Lib.hid ho
    have HB := Lib.hid hb
    have HL := Lib.hid (allOf_len ps j)
    clear ho hb
    by_cases hlt : j < ps.length
    · obtain ⟨p, hp⟩ : ∃ p, ps[j]? = some p := ⟨ps[j], List.getElem?_eq_getElem hlt⟩
      have H1 := Lib.hid (H.out.call HB.out)
      have hc := (H1.out.rowp.cell j).trans (pgs_get hp)
      have h3 : (j : Int) < (ps.length : Int) := by omega
      have HJ := Lib.hid hp
      clear hp
      have HP := Lib.hid (page_all (p := p) (w := wr) (fun q e => (H1.out.page j q (by rw [HJ.out, e])).1) (HT.out.call HB.out))
      have HLL := Lib.hid (lst_len p)
      have HBL := Lib.hid (begins_lst HJ.out)
      obtain ⟨wo, rfl⟩ : ∃ wo : World, wo = wr := ⟨_, rfl⟩
      have hv : ∃ a, ptr p = .pointer a := by cases p <;> exact ⟨_, rfl⟩
      obtain ⟨pa, hpa⟩ := hv
      rw [hpa] at hc HP
      generalize hLs : lst p = L at *
      clear hpa hLs
      go_wp2_with fail
      refine HP.out.mono ?_
      rintro e w1 ⟨aL, cL, rfl, hoL, hbL⟩
      have HOL := Lib.hid hoL
      have HO1 := Lib.hid (own_block HO.out fun k hk => hbL.block k (HO.out.lt k hk).2)
      have HB1 := Lib.hid (below_call HB.out HB.out.size hbL)
      have HV1 := Lib.hid (show ∀ k, (Value.slice a (allOf ps j).length c).ownBlock = some k → ∀ g, (Value.slice aL L.length cL).ownBlock = some g → k ≠ g from fun k hk g hg e => by
        have h1 := (HO.out.lt k hk).2
        have h2 := (hoL.lt g hg).1
        omega)
      have hs1 := hbL.size
      clear hoL hbL
      dsimp only
      go_wp2_with fail
      go_loopw [3, 23] (fun v i wr => ∃ (m : Nat) (a' : Option Addr) (c' : Nat), m ≤ L.length ∧ i = .int .i64 m ∧ v = .slice a' ((allOf ps j).length + m) c' ∧
        wr.ownsRow w.heap.size 3 1 (.slice a' ((allOf ps j).length + m) c') ((allOf ps j).length + m) (ints' (allOf ps j ++ (begins ps j).take m)) ∧ Below w.heap.size w wr ∧
        wr.ownsRow wo.heap.size 3 1 (.slice aL L.length cL) L.length (nats L) ∧ (∀ k, (Value.slice a' ((allOf ps j).length + m) c').ownBlock = some k → ∀ g, (Value.slice aL L.length cL).ownBlock = some g → k ≠ g)) (fun _ i _ => L.length - (intOf i).toNat)
      case atStart => exact ⟨0, a, c, Nat.zero_le _, rfl, rfl, by simpa using HO1.out, HB1.out, HOL.out, by simpa using HV1.out⟩
      case round =>
        obtain ⟨m, a', c', hm, rfl, rfl, ho2, hb2, hol2, hv2⟩ := hrel
        have HO2 := Lib.hid ho2
        have HB2 := Lib.hid hb2
        have HOL2 := Lib.hid hol2
        have HV2 := Lib.hid hv2
        clear ho2 hb2 hol2 hv2
        by_cases hlm : m < L.length
        · obtain ⟨s, hs⟩ : ∃ s, L[m]? = some s := ⟨L[m], List.getElem?_eq_getElem hlm⟩
          obtain ⟨g, rfl⟩ : ∃ g, aL = some ⟨g, 0, none⟩ := by
            rcases HOL2.out.2 with ⟨_, h⟩ | ⟨g, cap, _, h, _⟩
            · exfalso; omega
            · injection h with h3; exact ⟨g, h3⟩
          have hcell := HOL2.out.cells (g := g) rfl m (.int .i64 (s : Int)) (by simp [nats, ints, hs])
          rw [add_form] at hcell
          have hcell : wr.cell? ⟨g, m, none⟩ = some (.int .i64 (s : Int)) := by simpa using hcell
          have hl3 : (m : Int) < (L.length : Int) := by omega
          have H2 := Lib.hid (H.out.call HB2.out)
          have HX := Lib.hid (show (begins ps j).take (m + 1) = (begins ps j).take m ++ [base ps j (s : Int)] from take_one (by rw [HBL.out]; simp [hs]))
          have hsz := HB2.out.size
          have hlen := HL.out
          have hlen2 := HLL.out
          have h32 : (allOf ps j).length ≤ 2048 := by omega
          have hm32 : m ≤ 32 := by omega
          go_wp2_with fail
          refine (base_any _ _ _ _ _ _ _ _ H2.out).mono ?_
          rintro e w3 ⟨rfl, d, rfl⟩
          dsimp only
          have HO3 := Lib.hid (own_block HO2.out fun k hk => (rfl : (wr.drewN d).heap[k]? = wr.heap[k]?))
          have HOL3 := Lib.hid (own_block HOL2.out fun k hk => (rfl : (wr.drewN d).heap[k]? = wr.heap[k]?))
          have HB3 := Lib.hid (below_drewN HB2.out d)
          generalize wr.drewN d = w3 at *
          generalize base ps j (s : Int) = x at *
          have hsz3 := HB3.out.size
          clear hcell hsz
          go_wp2_with (first
            | (at_builtin; go_loud (refine wpList_app _ rfl _ _ 27 rfl w.heap.size 3 i0 (.int .i64 0) 1 8 Tryd.underlying27 HI.out.1 HI.out.2.1 HI.out.2.2.1 HI.out.2.2.2 rfl (by decide) _ _ _ rfl (HO3.out.alloc _) (w3.heap.size + 1) _ 1 1 [.int .i64 x] rfl (Blk.reads (Blk.new w3 _ _) (by simp) rfl rfl (by decide)) ?c1 ?c2 ?c3 ?c4 ?_))
            | fail)
          case c1 => intro u hu; simp at hu; subst hu; rfl
          case c2 => unfold maxLen; omega
          case c3 => omega
          case c4 => (try simp only [World.size_alloc]); omega
          intro a4 c4 w4 ho4 hg4 hat4
          have HO4 := Lib.hid (show w4.ownsRow w.heap.size 3 1 (.slice a4 ((allOf ps j).length + (m + 1)) c4) ((allOf ps j).length + (m + 1)) (ints' (allOf ps j ++ (begins ps j).take (m + 1))) from by
            rw [HX.out]; simpa [ints', Nat.add_assoc] using ho4)
          have HB4 := Lib.hid (show Below w.heap.size w w4 from (fresh_alloc HB3.out _).grown hg4 (by simp; omega) (fun k hk => (HO3.out.lt k hk).1))
          have HOL4 := Lib.hid (own_block (HOL3.out.alloc (.cells #[.int .i64 x] 3)) fun k hk => hg4.block k (by have := (HOL3.out.lt k hk).2; simp; omega) (fun e => HV2.out k e.symm k hk rfl))
          have HV4 := Lib.hid (show ∀ k, (Value.slice a4 ((allOf ps j).length + (m + 1)) c4).ownBlock = some k → ∀ g', (Value.slice (some ⟨g, 0, none⟩) L.length cL).ownBlock = some g' → k ≠ g' from fun k hk g' hg' => by
            rw [Nat.add_assoc] at hat4
            rcases hat4 with e | e
            · exact HV2.out k (e.symm.trans hk) g' hg'
            · have h1 := (HOL3.out.lt g' hg').2
              have h2 : k = _ := Option.some.inj (hk.symm.trans e)
              omega)
          clear ho4 hg4 hat4
          go_wp2_with fail
          go_roundw
          case rel => exact ⟨m + 1, a4, c4, by omega, rfl, by rw [Nat.add_assoc], HO4.out, HB4.out, HOL4.out, HV4.out⟩
          case measure => simp [intOf]; omega
        · obtain rfl : m = L.length := by omega
          have HEnd := Lib.hid (show (begins ps j).take L.length = begins ps j by rw [List.take_of_length_le]; rw [HBL.out, List.length_map]; omega)
          have HLen := Lib.hid (show (begins ps j).length = L.length by rw [HBL.out, List.length_map])
          go_wp2_with fail
          go_roundw
          case rel => exact ⟨j + 1, a', c', by omega, rfl, by rw [allOf, List.length_append, HLen.out], by
            have := HO2.out
            rw [HEnd.out] at this
            rw [allOf, List.length_append, HLen.out]
            exact this, HB2.out⟩
          case measure => simp [intOf]; omega
    · obtain rfl : j = ps.length := by omega
      go_wp2_with fail
      go_ret
      exact ⟨a, c, rfl, HO.out, HB.out⟩
end Go.Proofs.YtoajbjeiplolnaaDoorR.Ar
