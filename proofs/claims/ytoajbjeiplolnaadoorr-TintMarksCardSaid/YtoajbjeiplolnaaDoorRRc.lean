/- Package besomlaw20: reach: what is reached from objects, by the links as they are. -/
import Derived.Test.YtoajbjeiplolnaaDoorRTd
namespace Go.Proofs.YtoajbjeiplolnaaDoorR.Td
open Go.RowKit Ar Hp Tn
set_option linter.unusedSimpArgs false
set_option linter.unusedVariables false

/-- What is reached, by the words. -/
inductive Rl (ls : List (List Int)) (σ : HS) (F : List Int) : Int → Prop where
  | base {a : Int} (h : a ∈ F) : Rl ls σ F a
  | step {a v : Int} (h : Rl ls σ F a) (hv : v ∈ ptrs ls σ a) (h0 : v ≠ 0) : Rl ls σ F v
/-- What is asked of the heap. -/
structure LQ (ls : List (List Int)) (σ : HS) (L F : List Int) : Prop where
  at_ : ∀ x ∈ L, ∃ k s, hat σ x = some (k, s)
  ptr : ∀ a, ∀ x ∈ ptrs ls σ a, x = 0 ∨ x ∈ L
  f : ∀ x ∈ F, x ∈ L
  z : hat σ 0 = none
structure RQ (ls : List (List Int)) (σ : HS) (L F td T : List Int) : Prop where
  t : ∀ a ∈ T, a ∈ L ∧ Rl ls σ F a
  li : ∀ x ∈ td, x = 0 ∨ (x ∈ L ∧ Rl ls σ F x)
  f : ∀ x ∈ F, x ∈ T ∨ x ∈ td
  cl : ∀ a ∈ T, ∀ v ∈ ptrs ls σ a, v = 0 ∨ v ∈ T ∨ v ∈ td
  nd : T.Pairwise (· ≠ ·)
section
variable {ls : List (List Int)} {σ : HS} {L F td T : List Int} {x : Int}
theorem LQ.z0 (h : LQ ls σ L F) : (0 : Int) ∉ L := fun e => by
  obtain ⟨k, s, hq⟩ := h.at_ 0 e
  rw [h.z] at hq
  cases hq
theorem RQ.start (h : LQ ls σ L F) : RQ ls σ L F F [] := ⟨fun a ha => (by cases ha), fun x hx => .inr ⟨h.f x hx, .base hx⟩, fun x hx => .inr hx, fun a ha => (by cases ha), List.Pairwise.nil⟩
theorem RQ.skip (hL : LQ ls σ L F) (h : RQ ls σ L F (x :: td) T) (hx : hat σ x = none ∨ x ∈ T) : RQ ls σ L F td T := by
  have hx : x = 0 ∨ x ∈ T := by
    rcases hx with hx | hx
    · rcases h.li x (by simp) with h1 | ⟨h1, _⟩
      · exact .inl h1
      · obtain ⟨k, s, hq⟩ := hL.at_ x h1
        rw [hx] at hq
        cases hq
    · exact .inr hx
  refine ⟨h.t, fun y hy => h.li y (by simp [hy]), fun y hy => ?_, fun a ha v hv => ?_, h.nd⟩
  · rcases h.f y hy with h1 | h1
    · exact .inl h1
    · rcases List.mem_cons.1 h1 with rfl | h1
      · rcases hx with rfl | hx
        · exact absurd (hL.f _ hy) hL.z0
        · exact .inl hx
      · exact .inr h1
  · rcases h.cl a ha v hv with h1 | h1 | h1
    · exact .inl h1
    · exact .inr (.inl h1)
    · rcases List.mem_cons.1 h1 with rfl | h1
      · rcases hx with rfl | hx
        · exact .inl rfl
        · exact .inr (.inl hx)
      · exact .inr (.inr h1)
theorem RQ.take (hL : LQ ls σ L F) (h : RQ ls σ L F (x :: td) T) {q : Nat × Nat} (hx : hat σ x = some q) (hT : x ∉ T) : RQ ls σ L F (td ++ ptrs ls σ x) (addT T x) ∧ (addT T x).length = T.length + 1 ∧ T.length + 1 ≤ L.length := by
  have hxl : x ∈ L ∧ Rl ls σ F x := by
    rcases h.li x (by simp) with h1 | h1
    · rw [h1, hL.z] at hx
      cases hx
    · exact h1
  have hlen : (addT T x).length = T.length + 1 := by
    unfold addT
    rw [if_neg hT]
    rfl
  have hnd := addT_nodup (v := x) h.nd
  have hsub : ∀ a ∈ addT T x, a ∈ L ∧ Rl ls σ F a := fun a ha => by
    rcases mem_addT.1 ha with rfl | ha
    · exact hxl
    · exact h.t a ha
  refine ⟨⟨hsub, fun y hy => ?_, fun y hy => ?_, fun a ha v hv => ?_, hnd⟩, hlen, ?_⟩
  · rcases List.mem_append.1 hy with hy | hy
    · exact h.li y (by simp [hy])
    · rcases hL.ptr x y hy with h1 | h1
      · exact .inl h1
      · right
        refine ⟨h1, .step hxl.2 hy ?_⟩
        rintro rfl
        exact hL.z0 h1
  · rcases h.f y hy with h1 | h1
    · exact .inl (mem_addT.2 (.inr h1))
    · rcases List.mem_cons.1 h1 with rfl | h1
      · exact .inl (mem_addT.2 (.inl rfl))
      · exact .inr (List.mem_append_left _ h1)
  · rcases mem_addT.1 ha with rfl | ha
    · exact .inr (.inr (List.mem_append_right _ hv))
    · rcases h.cl a ha v hv with h1 | h1 | h1
      · exact .inl h1
      · exact .inr (.inl (mem_addT.2 (.inr h1)))
      · rcases List.mem_cons.1 h1 with rfl | h1
        · exact .inr (.inl (mem_addT.2 (.inl rfl)))
        · exact .inr (.inr (List.mem_append_left _ h1))
  · have := Tm.nodup_len _ L hnd fun a ha => (hsub a ha).1
    omega
theorem RQ.end_ (h : RQ ls σ L F [] T) (a : Int) : a ∈ T ↔ Rl ls σ F a := by
  refine ⟨fun ha => (h.t a ha).2, fun ha => ?_⟩
  induction ha with
  | base hf => exact (h.f _ hf).resolve_right (by simp)
  | step _ hv h0 ih =>
    rcases h.cl _ ih _ hv with h1 | h1 | h1
    · exact absurd h1 h0
    · exact h1
    · cases h1
end
theorem pk_yes {l ws : List Int} {a z : Int} {q : Nat} (hz : l[q]? = some z) (hp : Shp.isP z = true) : pk l ws a (q + 1) = pk l ws a q ++ [ws.getD (a + (q : Int) - 1048576).toNat 0] := by
  show pk l ws a q ++ _ = _
  rw [hz]
  simp [hp]
theorem pk_no {l ws : List Int} {a z : Int} {q : Nat} (hz : l[q]? = some z) (hp : Shp.isP z = false) : pk l ws a (q + 1) = pk l ws a q := by
  show pk l ws a q ++ _ = _
  rw [hz]
  simp [hp]
theorem ptrs_pk {ls : List (List Int)} {σ : HS} {x : Int} {k s j : Nat} {t : Tm.Thing} {l : List Int} (hh : hat σ x = some (k, s)) (ht : σ.M k s = some t) (hj : t.1 = (j : Int)) (hl : ls[j]? = some l) (hn : nfl ls σ k s = l.length) : ptrs ls σ x = pk l σ.ws x l.length := by
  unfold ptrs
  rw [hh]
  show pk (ls.getD ((σ.M k s).getD (0, 0, 0)).1.toNat []) σ.ws x (nfl ls σ k s) = _
  rw [hn, ht, Option.getD_some, hj, Int.toNat_natCast, List.getD, hl, Option.getD_some]
theorem flds_at {ls : List (List Int)} {σ : HS} {x : Int} {k s n q : Nat} (hn : nfl ls σ k s = n) (hq : q < n) : (flds ls σ x k s)[q]? = some (σ.ws.getD (x + (q : Int) - 1048576).toNat 0) := by
  unfold flds
  rw [hn, List.getElem?_map, List.getElem?_range hq]
  rfl
/-- What stands beside the row while an object's fields are read. -/
structure Ins (w wr : World) (bo mb fz : Nat) (cs : Array Value) (A3 : Option Addr) (n3 c3 : Nat) (fl : List Int) (T : List Int) : Prop where
  ob : Blk wr bo cs 68
  fd : wr.ownsRow fz 3 1 (.slice A3 n3 c3) n3 (ints' fl)
  mp : BMap wr mb T (fun x => decide (x ∈ T))
  be : Below w.heap.size w wr
theorem Ins.call {w wr w' : World} {bo mb fz : Nat} {cs : Array Value} {A3 : Option Addr} {n3 c3 : Nat} {fl T : List Int} (h : Ins w wr bo mb fz cs A3 n3 c3 fl T) (hb : Below wr.heap.size wr w') : Ins w w' bo mb fz cs A3 n3 c3 fl T :=
  ⟨h.ob.call hb, own_block h.fd fun k hk => hb.block k (h.fd.lt k hk).2, h.mp.block (hb.block _ h.mp.lt), fresh_call h.be hb⟩
/-- Behind the append to the row. -/
theorem Ins.app {w wr w' : World} {bo mb fz : Nat} {cs : Array Value} {A3 A : Option Addr} {n3 c3 : Nat} {fl T : List Int} (h : Ins w wr bo mb fz cs A3 n3 c3 fl T) (hA : ∀ g, (Value.slice A 0 0).ownBlock = some g → (Value.slice A3 n3 c3).ownBlock ≠ some g)
    (hg : ∃ row, wr.grownBy w' row ∧ ∀ g, row = some g → w.heap.size ≤ g ∧ (∃ cur, Blk wr g cur 3) ∧ (Value.slice A 0 0).ownBlock = some g) : Ins w w' bo mb fz cs A3 n3 c3 fl T := by
  obtain ⟨row, hg, hr⟩ := hg
  refine ⟨(hg.block bo h.ob.lt fun e => ?_).trans h.ob, own_block h.fd fun k hk => hg.block k (h.fd.lt k hk).2 fun e => ?_, h.mp.block (hg.block mb h.mp.lt fun e => ?_), h.be.grown hg h.be.size fun k hk => (hr k hk).1⟩
  · obtain ⟨_, ⟨cur, hc⟩, _⟩ := hr bo e.symm
    have h1 : wr.heap[bo]? = some (.cells cs 68 (0, 0)) := h.ob
    have h2 : wr.heap[bo]? = some (.cells cur 3 (0, 0)) := hc
    rw [h1] at h2
    injection h2 with h2
    injection h2 with _ h2
    exact absurd h2 (by decide)
  · obtain ⟨_, _, h1⟩ := hr k e.symm
    exact hA k h1 hk
  · obtain ⟨_, ⟨cur, hc⟩, _⟩ := hr mb e.symm
    exact h.mp.ne_blk hc rfl
/-- Behind reach. -/
def Reached (ls : List (List Int)) (σ : HS) (L F : List Int) (w : World) (e : Ending) (w' : World) : Prop :=
  ∃ (mb : Nat) (T : List Int), e = .returned (.map (some mb)) ∧ w.heap.size ≤ mb ∧ BMap w' mb T (fun x => decide (x ∈ T)) ∧ Below w.heap.size w w' ∧ T.Pairwise (· ≠ ·) ∧ (∀ a, a ∈ T ↔ Rl ls σ F a) ∧ ∀ a ∈ T, a ∈ L
set_option maxRecDepth 100000 in
set_option maxHeartbeats 4000000 in
theorem reach_any (B : HB) (ls : List (List Int)) (σ : HS) (zs : Nat) (sa : Option Addr) (sc : Nat) (A : Option Addr) (n c : Nat) (L F : List Int) (w : World) (h : HpAt w B ls σ) (hs : Shp.RS w zs sa ls.length sc ls) (hzs : zs ≤ w.heap.size) (hq : LQ ls σ L F)
    (hL : L.length ≤ 1000) (hF : F.length = n) (hn : n ≤ 1000) (hR : Reads w w.heap.size 1 A n c (ints' F)) :
    Calls Tryd.prog 68 #[.pointer (some ⟨B.b, 0, none⟩), .slice sa ls.length sc, .slice A n c] w (Reached ls σ L F w) := by
  obtain ⟨i0, hi0, hz0, hz1, hz2⟩ := info_parts Book.infoI
  have HI := Lib.hid (⟨hi0, hz0, hz1, hz2⟩ : Tryd.prog.info? 3 = some i0 ∧ i0.zero = some (.int .i64 0) ∧ i0.size = 1 ∧ i0.bytes = 8)
  have H := Lib.hid h
  have HS := Lib.hid (hs.more hzs)
  have HQ := Lib.hid hq
  have HF := Lib.hid hF
  have HR := Lib.hid hR
  clear h hs hq hF hR hi0 hz0 hz1 hz2
  have hmm := @run_makeMap Tryd.prog
  go_enter Tryd.func68, Tryd.ntmps68
  have hA := fresh_alloc (Below.refl w.heap.size w) (.map #[] 0)
  have HBM := Lib.hid (BMap.made w)
  have HR0 := Lib.hid (HR.out.below hA)
  have HB0 := Lib.hid hA
  clear hA
  go_wp2_with (first
    | (at_builtin; go_loud (refine wpList_app _ rfl _ _ 27 rfl w.heap.size 3 i0 (.int .i64 0) 1 8 Tryd.underlying27 HI.out.1 HI.out.2.1 HI.out.2.2.1 HI.out.2.2.2 rfl (by decide) _ _ _ rfl (World.ownsRow_nil _ _ _ _) _ _ n c (ints' F) rfl HR0.out ?c1 ?c2 ?c3 ?c4 ?_))
    | fail)
  case c1 => intro u hu; obtain ⟨x, _, rfl⟩ := List.mem_map.1 hu; rfl
  case c2 => unfold maxLen; omega
  case c3 => omega
  case c4 => (try simp only [World.size_alloc]); omega
  intro a1 c1 w1 ho1 hg1 hat1
  have HTD1 := Lib.hid (show TD w.heap.size w1 a1 c1 F from TD.of_own (by rw [HF.out]; simpa using ho1))
  have HB1 := Lib.hid (show Below w.heap.size w w1 from HB0.out.grown hg1 (by simp) (fun k hk => by cases hk))
  have HBM1 := Lib.hid (show BMap w1 w.heap.size [] (fun x => decide (x ∈ ([] : List Int))) by
    have := HBM.out.block (hg1.block w.heap.size (by simp) (by simp [Value.ownBlock]))
    simpa using this)
  clear ho1 hg1 hat1 HBM HR0 HB0 hmm
  obtain ⟨mb, hmb⟩ : ∃ mb, w.heap.size = mb := ⟨_, rfl⟩
  have HMB := Lib.hid (show w.heap.size ≤ mb by omega)
  rw [hmb] at HBM1 ⊢
  clear hmb
  obtain ⟨m0, hm0⟩ : ∃ m0, F.length = m0 := ⟨_, rfl⟩
  have hm1 : m0 = n := by rw [← hm0]; exact HF.out
  have HM0 := Lib.hid hm0
  have hnm : Value.slice a1 n c1 = Value.slice a1 m0 c1 := by rw [hm1]
  rw [hnm]
  have hmn : m0 ≤ n := by omega
  clear hm0 hnm hm1
  go_wp2_with fail
  go_loopg [8, 9, 10, 11, 12] (18 * L.length + m0) (fun g v8 _ _ _ _ wr => ∃ (td T : List Int) (A1 : Option Addr) (c1 m : Nat), v8 = .slice A1 m c1 ∧ td.length = m ∧ g = 18 * (L.length - T.length) + m ∧ RQ ls σ L F td T ∧ TD w.heap.size wr A1 c1 td ∧ BMap wr mb T (fun x => decide (x ∈ T)) ∧ Below w.heap.size w wr ∧ T.length ≤ 1000 ∧ g ≤ 18 * L.length + m0)
  case atStart => exact ⟨F, [], a1, c1, m0, rfl, HM0.out, by simp, RQ.start HQ.out, HTD1.out, HBM1.out, HB1.out, by simp, Nat.le_refl _⟩
  case round =>
    clear HTD1 HBM1 HB1 HM0
    obtain ⟨td, T, A1, c1, m, rfl, hml, rfl, hrq, htd, hbm, hb, hT, hm⟩ := hrel
    have HRQ := Lib.hid hrq
    have HTD := Lib.hid htd
    have HBM := Lib.hid hbm
    have HB := Lib.hid hb
    have HML := Lib.hid hml
    clear hrq htd hbm hb hml
    obtain ⟨w2, rfl⟩ : ∃ w2 : World, w2 = wr := ⟨_, rfl⟩
    rcases td with _ | ⟨x, td⟩
    · obtain rfl : m = 0 := HML.out.symm
      have HE := Lib.hid (show Reached ls σ L F w (.returned (.map (some mb))) w2 from ⟨mb, T, rfl, HMB.out, HBM.out, HB.out, HRQ.out.nd, HRQ.out.end_, fun a ha => (HRQ.out.t a ha).1⟩)
      go_wp2_with fail
      go_ret
      exact HE.out
    · obtain ⟨m, rfl⟩ : ∃ k, m = k + 1 := ⟨td.length, by have := HML.out; simp at this; omega⟩
      have HTL := Lib.hid (show td.length = m by have := HML.out; simp at this; omega)
      obtain ⟨g, off, rfl, hgl, hcell⟩ := HTD.out.head
      have hm0 : (0 : Int) < ((m + 1 : Nat) : Int) := by omega
      have hc1 := HTD.out.le
      rw [List.length_cons, HTL.out] at hc1
      clear HML
      go_upto_region 5 with (fail)
      go_cut [8] from 22 to 23 (fun v wx => ∃ A2 c2, v = .slice A2 m c2 ∧ TD w.heap.size w2 A2 c2 td ∧ wx = w2)
      case first =>
        by_cases hc2 : c1 = 1
        · subst hc2
          obtain ⟨h1, h2⟩ := HTD.out.tail1
          have HT2 := Lib.hid h2
          obtain rfl : m = 0 := by omega
          clear h1 h2 HTD
          go_wp2_with fail
          go_meet
          exact ⟨_, _, rfl, HT2.out, rfl⟩
        · have HT2 := Lib.hid HTD.out.tail
          clear HTD
          go_wp2_with fail
          go_meet
          exact ⟨_, _, rfl, HT2.out, rfl⟩
      case rest =>
      obtain ⟨A2, c2, rfl, htd2, rfl⟩ := hcut
      have HTD2 := Lib.hid htd2
      clear htd2 HTD hcell
      obtain ⟨w2, rfl⟩ : ∃ w2 : World, w2 = wc := ⟨_, rfl⟩
      have hxb : x = 0 ∨ x ∈ L := (HRQ.out.li x (by simp)).imp id (·.1)
      have hxm : x ≤ 9223372036854775807 ∧ (Lit.int .i64 x).wf = true := by
        rcases hxb with rfl | hx
        · exact ⟨by omega, by decide⟩
        · obtain ⟨k, s, hq⟩ := HQ.out.at_ x hx
          have := hat_bound H.out hq
          exact ⟨by omega, wf_addr this⟩
      have hxm1 := hxm.1
      have HXW := Lib.hid hxm.2
      clear hxb hxm
      go_wp2_with fail
      refine (object_any B ls σ x _ (H.out.call HB.out) hxm1).mono ?_
      rintro e w5 (⟨h1, rfl, hb5⟩ | ⟨k, s, t, A3, c3, h1, h2, rfl, ho3, hb5⟩)
      · have HRQ2 := Lib.hid (HRQ.out.skip HQ.out (.inl h1))
        have hA := fresh_alloc hb5 (.cells #[.int .i64 0, .int .i64 0, .int .i64 0, .slice none 0 0, .bool false] 68)
        have HTD6 := Lib.hid (HTD2.out.call hA)
        have HBM6 := Lib.hid (HBM.out.block (hA.block _ HBM.out.lt))
        have HB6 := Lib.hid (fresh_call HB.out hA)
        clear h1 hb5 hA HTD2 HBM HB HRQ
        dsimp only
        go_wp2_with fail
        go_roundg (18 * (L.length - T.length) + m)
        case measure => omega
        case rel => exact ⟨td, T, A2, c2, m, rfl, HTL.out, rfl, HRQ2.out, HTD6.out, HBM6.out, HB6.out, hT, by omega⟩
      · obtain ⟨_, p, hp, _⟩ := hat_addr H.out h1
        obtain ⟨j, l, htj, hlj, hnl, hl1, _⟩ := nfl_is H.out h2 hp
        have hl16 := (H.out.len l (List.mem_of_getElem? hlj)).2
        have hjl := (List.getElem?_eq_some_iff.1 hlj).1
        have hjl2 : (j : Int) < (ls.length : Int) := by omega
        have HPK := Lib.hid (ptrs_pk h1 h2 htj hlj hnl)
        have HFA := Lib.hid (fun (q : Nat) (hq : q < l.length) => flds_at (x := x) hnl hq)
        have HH := Lib.hid h1
        obtain ⟨fl, hfl⟩ : ∃ fl, flds ls σ x k s = fl := ⟨_, rfl⟩
        have hfl' : List.map (Value.int .i64) (flds ls σ x k s) = ints' fl := by rw [hfl]; rfl
        rw [hfl'] at ho3
        rw [hfl] at HFA
        rw [hnl] at ho3 ⊢
        rw [htj]
        generalize (t.2.2 != 0) = mk
        generalize t.2.1 = se
        have hA := fresh_alloc hb5 (.cells #[.int .i64 x, .int .i64 (j : Int), .int .i64 se, .slice A3 l.length c3, .bool mk] 68)
        have hin : Ins w (w5.alloc (.cells #[.int .i64 x, .int .i64 (j : Int), .int .i64 se, .slice A3 l.length c3, .bool mk] 68)) w5.heap.size mb w2.heap.size #[.int .i64 x, .int .i64 (j : Int), .int .i64 se, .slice A3 l.length c3, .bool mk] A3 l.length c3 fl T :=
          ⟨Blk.new w5 _ _, ho3.alloc _, HBM.out.block (hA.block _ HBM.out.lt), fresh_call HB.out hA⟩
        have HIN := Lib.hid hin
        have HTD6 := Lib.hid (HTD2.out.call hA)
        have HAP := Lib.hid (show ∀ g, (Value.slice A2 0 0).ownBlock = some g → (Value.slice A3 l.length c3).ownBlock ≠ some g from fun g hg e => by
          have h3 := HTD2.out.ow g hg
          have h4 := (ho3.lt g e).1
          omega)
        have HLJ := Lib.hid hlj
        obtain ⟨fg, rfl⟩ : ∃ fg, A3 = some ⟨fg, 0, none⟩ := by
          rcases ho3.2 with ⟨_, h⟩ | ⟨g, cap, _, h, _⟩
          · exfalso; omega
          · injection h with h3; exact ⟨g, h3⟩
        obtain ⟨w6, hw6⟩ : ∃ w6, w5.alloc (.cells #[.int .i64 x, .int .i64 (j : Int), .int .i64 se, .slice (some ⟨fg, 0, none⟩) l.length c3, .bool mk] 68) = w6 := ⟨_, rfl⟩
        obtain ⟨bo, hbo⟩ : ∃ bo, w5.heap.size = bo := ⟨_, rfl⟩
        rw [hw6] at HIN HTD6
        rw [hbo] at HIN
        clear h1 h2 hp hlj hnl htj hfl hfl' hA hin ho3 hb5 HTD2 HBM HB
        have hlk := HIN.out.mp.look x HXW.out
        by_cases hxT : x ∈ T
        · have HRQ2 := Lib.hid (HRQ.out.skip HQ.out (.inr hxT))
          rw [decide_eq_true hxT] at hlk
          clear hxT HRQ
          dsimp only
          go_wp2_with fail
          go_roundg (18 * (L.length - T.length) + m)
          case measure => omega
          case rel => exact ⟨td, T, A2, c2, m, rfl, HTL.out, rfl, HRQ2.out, HTD6.out, HIN.out.mp, HIN.out.be, hT, by omega⟩
        · obtain ⟨hrq2, hT1, hT2⟩ := HRQ.out.take HQ.out HH.out hxT
          have HRQ2 := Lib.hid hrq2
          rw [decide_eq_false hxT] at hlk
          have HT1 := Lib.hid hT1
          clear hxT HRQ hrq2 hT1
          dsimp only
          go_wp2_with (first
            | (at_mapUpdate; go_loud (refine wpList_updB rfl _ _ _ rfl x true rfl rfl rfl HIN.out.mp (by unfold maxLen; omega) HXW.out ?_; intro w7 hb7 hg7))
            | fail)
          rw [dec_addT] at hb7
          have HIN7 := Lib.hid (show Ins w w7 bo mb w2.heap.size #[.int .i64 x, .int .i64 (j : Int), .int .i64 se, .slice (some ⟨fg, 0, none⟩) l.length c3, .bool mk] (some ⟨fg, 0, none⟩) l.length c3 fl (addT T x) from
            ⟨(hg7.block bo HIN.out.ob.lt fun e => HIN.out.mp.ne_blk HIN.out.ob (Option.some.inj e).symm).trans HIN.out.ob, own_block HIN.out.fd fun k hk => hg7.block k (HIN.out.fd.lt k hk).2 fun e => own_neM HIN.out.fd HIN.out.mp (by rw [hk, e]), hb7, HIN.out.be.grown hg7 HIN.out.be.size fun k hk => by cases hk; exact HMB.out⟩)
          have HTD7 := Lib.hid (show TD w.heap.size w7 A2 c2 (td ++ pk l σ.ws x 0) from by
            show TD w.heap.size w7 A2 c2 (td ++ [])
            rw [List.append_nil]
            exact HTD6.out.upd HIN.out.mp hg7)
          have hw7z : w2.heap.size ≤ w7.heap.size := by
            have e1 := hg7.size
            have e2 := HIN.out.fd
            have e3 : bo < w6.heap.size := HIN.out.ob.lt
            have e4 := (HIN.out.fd.lt fg rfl).1
            have e5 := (HIN.out.fd.lt fg rfl).2
            omega
          clear hb7 hg7 HIN HTD6 hlk hw6
          go_wp2_with fail
          go_loopw [8, 12] (fun v8 kv wr => ∃ (q m8 : Nat) (A8 : Option Addr) (c8 : Nat), q ≤ l.length ∧ kv = .int .i64 (q : Int) ∧ v8 = .slice A8 m8 c8 ∧ (td ++ pk l σ.ws x q).length = m8 ∧ m8 ≤ m + q ∧ TD w.heap.size wr A8 c8 (td ++ pk l σ.ws x q) ∧ Ins w wr bo mb w2.heap.size #[.int .i64 x, .int .i64 (j : Int), .int .i64 se, .slice (some ⟨fg, 0, none⟩) l.length c3, .bool mk] (some ⟨fg, 0, none⟩) l.length c3 fl (addT T x) ∧ (∀ g, (Value.slice A8 0 0).ownBlock = some g → (Value.slice (some ⟨fg, 0, none⟩) l.length c3).ownBlock ≠ some g)) (fun _ kv _ => l.length - (intOf kv).toNat)
          case atStart => exact ⟨0, m, A2, c2, Nat.zero_le _, rfl, rfl, (by rw [List.length_append, HTL.out]; rfl), by omega, HTD7.out, HIN7.out, HAP.out⟩
          case round =>
            clear HTD7 HIN7 HAP
            obtain ⟨q, m8, A8, c8, hq, rfl, rfl, hm8, hm8b, htd8, hin8, hap8⟩ := hrel
            have HTD8 := Lib.hid htd8
            have HIN8 := Lib.hid hin8
            have HAP8 := Lib.hid hap8
            have HM8 := Lib.hid hm8
            clear htd8 hin8 hap8 hm8
            obtain ⟨w8, rfl⟩ : ∃ w8 : World, w8 = wr := ⟨_, rfl⟩
            have q1 : w8.cell? ⟨bo, 1, none⟩ = some (.int .i64 (j : Int)) := HIN8.out.ob.cell 1
            have q3 : w8.cell? ⟨bo, 3, none⟩ = some (.slice (some ⟨fg, 0, none⟩) l.length c3) := HIN8.out.ob.cell 3
            have lbo := HIN8.out.ob.lt
            have hj0 : (0 : Int) ≤ (j : Int) := by omega
            obtain ⟨sb, so, A4, c4, rfl, hsb, hcs, hri, _⟩ := (HS.out.keep HIN8.out.be).2.2.2 j l HLJ.out
            have HRI := Lib.hid hri
            have hsz8 := HIN8.out.be.size
            have hsb8 : sb < w8.heap.size := by omega
            clear hri
            by_cases hql : q < l.length
            · have hql2 : (q : Int) < (l.length : Int) := by omega
              obtain ⟨zk, hz⟩ : ∃ zk, l[q]? = some zk := ⟨_, List.getElem?_eq_getElem hql⟩
              obtain ⟨ib, io, rfl, hib, hic⟩ := HRI.out.2.at_ (j := q) (u := .int .i64 zk) (by simp [hz])
              have hib8 : ib < w8.heap.size := by omega
              obtain ⟨v, hv⟩ : ∃ v, σ.ws.getD (x + (q : Int) - 1048576).toNat 0 = v := ⟨_, rfl⟩
              have hfv := HFA.out q hql
              rw [hv] at hfv
              have hfc := HIN8.out.fd.cells (g := fg) rfl q (.int .i64 v) (by simp [ints', hfv])
              rw [add_form] at hfc
              have hfc : w8.cell? ⟨fg, q, none⟩ = some (.int .i64 v) := by simpa using hfc
              have hfl8 := (HIN8.out.fd.lt fg rfl).2
              have HPY := Lib.hid (fun hp : Shp.isP zk = true => pk_yes (ws := σ.ws) (a := x) hz hp)
              have HPN := Lib.hid (fun hp : Shp.isP zk = false => pk_no (ws := σ.ws) (a := x) hz hp)
              rw [hv] at HPY
              clear hz hv hfv
              go_wp2_with fail
              refine (Shp.isptr_any zk _).mono ?_
              rintro e w9 ⟨rfl, rfl⟩
              dsimp only
              rcases hp : Shp.isP zk with _ | _
              · have HPE := Lib.hid (HPN.out hp)
                clear hp
                go_wp2_with fail
                go_roundw
                case rel => exact ⟨q + 1, m8, A8, c8, by omega, by go_num, rfl, by rw [HPE.out]; exact HM8.out, by omega, by rw [HPE.out]; exact HTD8.out, HIN8.out, HAP8.out⟩
                case measure => simp [intOf]; omega
              · have HPE := Lib.hid (HPY.out hp)
                clear hp
                have hA := fresh_alloc (Below.refl w8.heap.size w8) (.cells #[.int .i64 v] 3)
                have HT9 := Lib.hid (HTD8.out.call hA)
                have HI9 := Lib.hid (HIN8.out.call hA)
                have hbn := (Blk.new w8 #[.int .i64 v] 3).cell 0
                have HBN := Lib.hid (show (w8.alloc (.cells #[.int .i64 v] 3)).cell? ⟨w8.heap.size, 0, none⟩ = some (.int .i64 v) from hbn)
                clear hA hbn
                go_wp2_with (first
                  | (at_builtin; go_loud (refine wpList_td rfl _ _ rfl i0 HI.out.1 HI.out.2.1 HI.out.2.2.1 HI.out.2.2.2 rfl HM8.out HT9.out ?c1 w8.heap.size rfl HBN.out ?c2 ?_))
                  | fail)
                case c1 => omega
                case c2 => (try simp only [World.size_alloc]); omega
                intro A9 c9 w9 ht9 row9 hg9 hr9 ho9
                have HTD9 := Lib.hid (show TD w.heap.size w9 A9 c9 (td ++ pk l σ.ws x (q + 1)) from by rw [HPE.out]; simpa [List.append_assoc] using ht9)
                have HIN9 := Lib.hid (HI9.out.app HAP8.out ⟨row9, hg9, hr9⟩)
                have HAP9 := Lib.hid (show ∀ g, (Value.slice A9 0 0).ownBlock = some g → (Value.slice (some ⟨fg, 0, none⟩) l.length c3).ownBlock ≠ some g from fun g hg e => by
                  rcases ho9 g hg with h1 | h1
                  · exact HAP8.out g h1 e
                  · have h2 : fg = g := Option.some.inj e
                    omega)
                have HM9 := Lib.hid (show (td ++ pk l σ.ws x (q + 1)).length = m8 + 1 from by rw [HPE.out, ← List.append_assoc, List.length_append, HM8.out]; rfl)
                clear ht9 hg9 hr9 ho9 HT9 HI9 HBN HTD8 HIN8 HAP8
                go_wp2_with fail
                go_roundw
                case rel => exact ⟨q + 1, m8 + 1, A9, c9, by omega, by go_num, rfl, HM9.out, by omega, HTD9.out, HIN9.out, HAP9.out⟩
                case measure => simp [intOf]; omega
            · obtain rfl : q = l.length := by omega
              have hql2 : ¬ (l.length : Int) < (l.length : Int) := by omega
              have HRQ3 := Lib.hid (show RQ ls σ L F (td ++ pk l σ.ws x l.length) (addT T x) from by rw [← HPK.out]; exact HRQ2.out)
              have hTa := HT1.out
              go_wp2_with fail
              go_roundg (18 * (L.length - (addT T x).length) + m8)
              case measure => omega
              case rel => exact ⟨_, addT T x, A8, c8, m8, rfl, HM8.out, rfl, HRQ3.out, HTD8.out, HIN8.out.mp, HIN8.out.be, by omega, by omega⟩
end Go.Proofs.YtoajbjeiplolnaaDoorR.Td
