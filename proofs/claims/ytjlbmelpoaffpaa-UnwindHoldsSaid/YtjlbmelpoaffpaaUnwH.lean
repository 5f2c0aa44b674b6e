/- Plain law of package unwind: alarms that wait stand at depths that rise. No program in sight. -/
import Derived.Test.YtjlbmelpoaffpaaUnwE
namespace Go.Proofs.Ytjlbmelpoaffpaa.Unw
set_option linter.unusedVariables false
set_option linter.unusedSimpArgs false

/-- The frame at a depth is a deferred call's. -/
def dfAt (ms : List Mk) (r : Int) : Prop := ∃ p m s, ms = p ++ m :: s ∧ (s.length : Int) + 1 = r ∧ m.df = true
theorem dfAt_push {ms : List Mk} {r : Int} (x : Mk) (h : dfAt ms r) : dfAt (x :: ms) r := by
  obtain ⟨p, m, s, rfl, h1, h2⟩ := h
  exact ⟨x :: p, m, s, rfl, h1, h2⟩
theorem dfAt_top {m m' : Mk} {r : List Mk} {x : Int} (hd : m'.df = m.df) (h : dfAt (m :: r) x) : dfAt (m' :: r) x := by
  obtain ⟨p, y, s, he, h1, h2⟩ := h
  rcases p with _ | ⟨z, p⟩
  · simp only [List.nil_append, List.cons.injEq] at he
    obtain ⟨rfl, rfl⟩ := he
    exact ⟨[], m', r, rfl, h1, hd.trans h2⟩
  · simp only [List.cons_append, List.cons.injEq] at he
    obtain ⟨rfl, rfl⟩ := he
    exact ⟨m' :: p, y, s, rfl, h1, h2⟩
theorem dfAt_pop {m : Mk} {r : List Mk} {x : Int} (hx : x ≤ r.length) (h : dfAt (m :: r) x) : dfAt r x := by
  obtain ⟨p, y, s, he, h1, h2⟩ := h
  rcases p with _ | ⟨z, p⟩
  · simp only [List.nil_append, List.cons.injEq] at he
    obtain ⟨rfl, rfl⟩ := he
    omega
  · simp only [List.cons_append, List.cons.injEq] at he
    obtain ⟨rfl, rfl⟩ := he
    exact ⟨p, y, s, rfl, h1, h2⟩
theorem dfAt_le {ms : List Mk} {r : Int} (h : dfAt ms r) : 1 ≤ r ∧ r ≤ ms.length := by
  obtain ⟨p, m, s, rfl, h1, h2⟩ := h
  simp
  omega
theorem dfAt_leave {ms : List Mk} {x : Int} (h : dfAt ms x) : dfAt (leave ms) x := by
  cases ms with
  | nil => exact h
  | cons m r => exact dfAt_top (m := m) (m' := { m with lv := true }) rfl h

/-- The alarms below another one. -/
def Ch (ms : List Mk) : Int → List Al → Prop
  | _, [] => True
  | B, b :: q => (b.run = 0 ∧ b.ex = true ∧ Ch ms B q) ∨ (0 < b.run ∧ b.run < B ∧ dfAt ms b.run ∧ Ch ms b.run q)
/-- The alarms of a task. -/
def HI (ms : List Mk) : List Al → Prop
  | [] => True
  | a :: q => (a.run = 0 ∧ Ch ms ((ms.length : Int) + 1) q) ∨ (0 < a.run ∧ a.run ≤ ms.length ∧ dfAt ms a.run ∧ Ch ms a.run q)
theorem Ch_mono {ms : List Mk} {B B' : Int} {q : List Al} (hB : B ≤ B') (h : Ch ms B q) : Ch ms B' q := by
  induction q with
  | nil => trivial
  | cons b q ih =>
    rcases h with ⟨h1, h2, h3⟩ | ⟨h1, h2, h3, h4⟩
    · exact .inl ⟨h1, h2, ih h3⟩
    · exact .inr ⟨h1, by omega, h3, h4⟩
theorem Ch_map {ms ms' : List Mk} {B : Int} {q : List Al} (hf : ∀ x, x < B → dfAt ms x → dfAt ms' x) (h : Ch ms B q) : Ch ms' B q := by
  induction q generalizing B with
  | nil => trivial
  | cons b q ih =>
    rcases h with ⟨h1, h2, h3⟩ | ⟨h1, h2, h3, h4⟩
    · exact .inl ⟨h1, h2, ih hf h3⟩
    · exact .inr ⟨h1, h2, hf _ h2 h3, ih (fun x hx => hf x (by omega)) h4⟩
theorem HI_of_Ch {ms : List Mk} {q : List Al} (h : Ch ms ((ms.length : Int) + 1) q) : HI ms q := by
  cases q with
  | nil => trivial
  | cons b q =>
    rcases h with ⟨h1, h2, h3⟩ | ⟨h1, h2, h3, h4⟩
    · exact .inl ⟨h1, h3⟩
    · exact .inr ⟨h1, by omega, h3, h4⟩
theorem HI_map {ms ms' : List Mk} {al : List Al} (hl : ms.length ≤ ms'.length) (hf : ∀ x, dfAt ms x → dfAt ms' x) (h : HI ms al) : HI ms' al := by
  cases al with
  | nil => trivial
  | cons a q =>
    rcases h with ⟨h1, h2⟩ | ⟨h1, h2, h3, h4⟩
    · exact .inl ⟨h1, Ch_mono (by omega) (Ch_map (fun x _ => hf x) h2)⟩
    · exact .inr ⟨h1, by omega, hf _ h3, Ch_map (fun x _ => hf x) h4⟩
theorem HI_push {ms : List Mk} {al : List Al} (x : Mk) (h : HI ms al) : HI (x :: ms) al := HI_map (by simp) (fun _ => dfAt_push x) h
theorem HI_leave {ms : List Mk} {al : List Al} (h : HI ms al) : HI (leave ms) al := HI_map (by cases ms <;> simp [leave]) (fun _ => dfAt_leave) h
theorem HI_defer {ms : List Mk} {al : List Al} (h : HI ms al) : HI (deferM ms) al := by
  cases ms with
  | nil => exact h
  | cons m r =>
    simp only [deferM]
    split
    · exact HI_map (by simp) (fun x hx => dfAt_top (m := m) rfl hx) h
    · exact h
theorem HI_new {ms : List Mk} {al : List Al} (a : Al) (ha : a.run = 0) (hu : unw al = false) (h : HI ms al) : HI ms (a :: al) := by
  refine .inl ⟨ha, ?_⟩
  cases al with
  | nil => trivial
  | cons b q =>
    rcases h with ⟨h1, h2⟩ | ⟨h1, h2, h3, h4⟩
    · simp [unw, h1] at hu
    · exact .inr ⟨h1, by omega, h3, h4⟩
theorem HI_rec {ms : List Mk} {a : Al} {q : List Al} (b : Bool) (h : HI ms (a :: q)) : HI ms ({ a with rc := b } :: q) := h
theorem abR_far {n : Int} {ms : List Mk} {B : Int} {q : List Al} (hn : 0 < n) (hB : B ≤ n) (h : Ch ms B q) : abR n q = q := by
  induction q generalizing B with
  | nil => rfl
  | cons b q ih =>
    rcases h with ⟨h1, h2, h3⟩ | ⟨h1, h2, h3, h4⟩
    · rw [abR, if_neg (by omega), ih hB h3]
    · rw [abR, if_neg (by omega), ih (by omega) h4]
theorem Ch_abR {m : Mk} {r : List Mk} {q : List Al} (h : Ch (m :: r) ((r.length : Int) + 1 + 1) q) : Ch r ((r.length : Int) + 1) (abR ((r.length : Int) + 1) q) := by
  have hp : ∀ x : Int, x < (r.length : Int) + 1 → dfAt (m :: r) x → dfAt r x := fun x hx => dfAt_pop (by omega)
  induction q with
  | nil => trivial
  | cons b q ih =>
    rcases h with ⟨h1, h2, h3⟩ | ⟨h1, h2, h3, h4⟩
    · rw [abR, if_neg (by omega)]
      exact .inl ⟨h1, h2, ih h3⟩
    · by_cases hb : b.run = (r.length : Int) + 1
      · rw [abR, if_pos hb]
        rw [hb] at h4
        have h5 := Ch_map hp h4
        split
        · rename_i hx
          exact .inl ⟨rfl, hx, h5⟩
        · exact h5
      · rw [abR, if_neg hb]
        have h5 : Ch r b.run q := Ch_map (fun x hx => hp x (by omega)) h4
        rw [abR_far (by omega) (by omega) h5]
        exact .inr ⟨h1, by omega, hp _ (by omega) h3, h5⟩
theorem HI_pop {ms : List Mk} {al : List Al} (h : HI ms al) : HI (popM ms al) (popA ms al) := by
  cases ms with
  | nil => exact h
  | cons m r =>
    have hp : ∀ x : Int, x < (r.length : Int) + 1 → dfAt (m :: r) x → dfAt r x := fun x hx => dfAt_pop (by omega)
    by_cases hu : unw al = true
    · simp only [popM, popA, if_pos hu]
      cases al with
      | nil => trivial
      | cons a q =>
        have ha : a.run = 0 := by simpa [unw] using hu
        rcases h with ⟨h1, h2⟩ | ⟨h1, _⟩
        · rw [List.length_cons] at h2
          exact .inl ⟨h1, Ch_abR (m := m) (by simpa using h2)⟩
        · omega
    · simp only [popM, popA, if_neg hu]
      cases al with
      | nil => trivial
      | cons a q =>
        have ha : a.run ≠ 0 := by simpa [unw] using hu
        rcases h with ⟨h1, _⟩ | ⟨h1, h2, h3, h4⟩
        · exact absurd h1 ha
        · rw [List.length_cons] at h2
          simp only [endM, endA]
          by_cases hr : a.run = (r.length : Int) + 1
          · rw [if_pos hr, if_pos hr]
            rw [hr] at h4
            have h5 := Ch_map hp h4
            split
            · exact HI_leave (HI_of_Ch h5)
            · exact .inl ⟨rfl, h5⟩
          · rw [if_neg hr, if_neg hr]
            exact .inr ⟨h1, by omega, hp _ (by omega) h3, Ch_map (fun x hx => hp x (by omega)) h4⟩
theorem HI_thunk {ms : List Mk} {al : List Al} (hn : next ms al = 1) (h : HI ms al) : HI (thunkM ms al) (thunkA ms al) := by
  cases ms with
  | nil => rcases next_nil al with h1 | h1 <;> rw [h1] at hn <;> simp at hn
  | cons m r =>
    unfold thunkM thunkA
    rw [if_pos hn]
    dsimp only
    have hf : ∀ x, dfAt (m :: r) x → dfAt (⟨false, true, 0⟩ :: { m with th := m.th - 1 } :: r) x := fun x hx => dfAt_push _ (dfAt_top (m := m) (m' := { m with th := m.th - 1 }) rfl hx)
    by_cases hu : unw al = true
    · rw [if_pos ⟨hn, hu⟩]
      cases al with
      | nil => simp [unw] at hu
      | cons a q =>
        have ha : a.run = 0 := by simpa [unw] using hu
        rcases h with ⟨h1, h2⟩ | ⟨h1, _⟩
        · refine .inr ⟨?_, ?_, ⟨[], ⟨false, true, 0⟩, _, rfl, ?_, rfl⟩, Ch_map (fun x _ => hf x) h2⟩
          · show (0 : Int) < ((m :: r : List Mk).length : Int) + 1; omega
          · show ((m :: r : List Mk).length : Int) + 1 ≤ _; simp
          · show _ = ((m :: r : List Mk).length : Int) + 1; simp
        · omega
    · rw [if_neg (fun x => hu x.2)]
      exact HI_map (by simp) hf h

/-- The depth of the nearest alarm below that waits. -/
def lastR : List Al → Int
  | [] => 0
  | b :: q => if b.run = 0 then lastR q else b.run
theorem lastR_Ch {ms : List Mk} {B : Int} {q : List Al} (hB : 0 < B) (h : Ch ms B q) : 0 ≤ lastR q ∧ lastR q < B := by
  induction q generalizing B with
  | nil => exact ⟨Int.le_refl _, hB⟩
  | cons b q ih =>
    rcases h with ⟨h1, h2, h3⟩ | ⟨h1, h2, h3, h4⟩
    · rw [lastR, if_pos h1]; exact ih hB h3
    · rw [lastR, if_neg (by omega)]; omega
theorem Ch_split {ms : List Mk} {B : Int} {p s : List Al} {b : Al} (hB : 0 < B) (h : Ch ms B (p ++ b :: s)) :
    (b.run = 0 ∧ b.ex = true) ∨ (0 < b.run ∧ dfAt ms b.run ∧ 0 ≤ lastR s ∧ lastR s < b.run) := by
  induction p generalizing B with
  | nil =>
    rcases h with ⟨h1, h2, h3⟩ | ⟨h1, h2, h3, h4⟩
    · exact .inl ⟨h1, h2⟩
    · have := lastR_Ch h1 h4
      exact .inr ⟨h1, h3, this.1, this.2⟩
  | cons x p ih =>
    rcases h with ⟨h1, h2, h3⟩ | ⟨h1, h2, h3, h4⟩
    · exact ih hB h3
    · exact ih h1 h4
/-- What is asked of each alarm. -/
theorem HI_split {ms : List Mk} {p s : List Al} {b : Al} (h : HI ms (p ++ b :: s)) :
    (b.run = 0 ∧ (p ≠ [] → b.ex = true)) ∨ (0 < b.run ∧ b.run ≤ ms.length ∧ dfAt ms b.run ∧ 0 ≤ lastR s ∧ lastR s < b.run) := by
  cases p with
  | nil =>
    rcases h with ⟨h1, h2⟩ | ⟨h1, h2, h3, h4⟩
    · exact .inl ⟨h1, fun x => absurd rfl x⟩
    · have := lastR_Ch h1 h4
      exact .inr ⟨h1, h2, h3, this.1, this.2⟩
  | cons x p =>
    have hc : ∃ B : Int, 0 < B ∧ Ch ms B (p ++ b :: s) := by
      rcases h with ⟨h1, h2⟩ | ⟨h1, h2, h3, h4⟩
      · exact ⟨_, by omega, h2⟩
      · exact ⟨_, h1, h4⟩
    obtain ⟨B, hB, hc⟩ := hc
    rcases Ch_split hB hc with ⟨h1, h2⟩ | ⟨h1, h2, h3, h4⟩
    · exact .inl ⟨h1, fun _ => h2⟩
    · exact .inr ⟨h1, (dfAt_le h2).2, h2, h3, h4⟩

theorem okT_cons {m : Mk} {r : List Mk} (h1 : 0 ≤ m.th) (h2 : m.th ≤ 16) (h : okT r) : okT (m :: r) := fun x hx => by
  rcases List.mem_cons.1 hx with rfl | hx
  · exact ⟨h1, h2⟩
  · exact h x hx
theorem okT_tail {m : Mk} {r : List Mk} (h : okT (m :: r)) : okT r := fun x hx => h x (List.mem_cons_of_mem _ hx)
theorem okT_leave {ms : List Mk} (h : okT ms) : okT (leave ms) := by
  cases ms with
  | nil => exact h
  | cons m r => exact okT_cons (h m List.mem_cons_self).1 (h m List.mem_cons_self).2 (okT_tail h)
theorem okT_defer {ms : List Mk} (h : okT ms) : okT (deferM ms) := by
  cases ms with
  | nil => exact h
  | cons m r =>
    have h1 := h m List.mem_cons_self
    simp only [deferM]
    split
    · exact okT_cons (show 0 ≤ m.th + 1 by omega) (show m.th + 1 ≤ 16 by omega) (okT_tail h)
    · exact h
theorem okT_pop {ms : List Mk} {al : List Al} (h : okT ms) : okT (popM ms al) := by
  cases ms with
  | nil => exact h
  | cons m r =>
    simp only [popM]
    split
    · exact okT_tail h
    · cases al with
      | nil => exact okT_tail h
      | cons a q =>
        simp only [endM]
        split
        · split
          · exact okT_leave (okT_tail h)
          · exact okT_tail h
        · exact okT_tail h
theorem okT_thunk {ms : List Mk} {al : List Al} (h : okT ms) : okT (thunkM ms al) := by
  unfold thunkM
  split
  · rename_i hn
    cases ms with
    | nil => exact h
    | cons m r =>
      have h0 := next_one hn
      have h1 := h m List.mem_cons_self
      exact okT_cons (by simp) (by simp) (okT_cons (show 0 ≤ m.th - 1 by omega) (show m.th - 1 ≤ 16 by omega) (okT_tail h))
  · exact h
theorem leave_len (ms : List Mk) : (leave ms).length = ms.length := by cases ms <;> rfl
theorem defer_len (ms : List Mk) : (deferM ms).length = ms.length := by
  cases ms with
  | nil => rfl
  | cons m r => simp only [deferM]; split <;> simp
theorem thunkM_len (ms : List Mk) (al : List Al) : (thunkM ms al).length ≤ ms.length + 1 := by
  unfold thunkM
  split
  · cases ms <;> simp
  · omega
theorem thunkA_len (ms : List Mk) (al : List Al) : (thunkA ms al).length = al.length := by
  unfold thunkA
  split
  · cases al <;> simp
  · rfl
theorem popM_len (ms : List Mk) (al : List Al) : (popM ms al).length ≤ ms.length := by
  cases ms with
  | nil => simp [popM]
  | cons m r =>
    simp only [popM]
    split
    · simp
    · cases al with
      | nil => simp [endM]
      | cons a q =>
        simp only [endM]
        split
        · split
          · rw [leave_len]; simp
          · simp
        · simp
theorem abR_len (n : Int) (q : List Al) : (abR n q).length ≤ q.length := by
  induction q with
  | nil => simp [abR]
  | cons b q ih =>
    rw [abR]
    split
    · split <;> simp
    · simpa using ih
theorem popA_len (ms : List Mk) (al : List Al) : (popA ms al).length ≤ al.length := by
  cases ms with
  | nil => simp [popA]
  | cons m r =>
    simp only [popA]
    split
    · cases al with
      | nil => simp [abA]
      | cons a q => have := abR_len ((r.length : Int) + 1) q; simpa [abA] using this
    · cases al with
      | nil => simp [endA]
      | cons a q =>
        simp only [endA]
        split
        · split <;> simp
        · simp
theorem next_zero {ms : List Mk} {al : List Al} (h : next ms al = 0) : ∃ m r, ms = m :: r ∧ unw al = false ∧ m.lv = false := by
  cases ms with
  | nil => rcases next_nil al with h1 | h1 <;> rw [h1] at h <;> simp at h
  | cons m r =>
    rw [next_cons] at h
    by_cases hc : (!unw al && !m.lv) = true
    · have : unw al = false ∧ m.lv = false := by simpa using hc
      exact ⟨m, r, rfl, this.1, this.2⟩
    · rw [if_neg hc] at h; split at h <;> simp at h
theorem next_end {ms : List Mk} {al : List Al} (h : next ms al = 3 ∨ next ms al = 4) : ms = [] := by
  cases ms with
  | nil => rfl
  | cons m r =>
    rw [next_cons] at h
    split at h
    · simp at h
    · split at h <;> simp at h
/-- The cells of an alarm in the middle. -/
theorem Var.midA {w0 w : Go.World} {b g : Nat} {ms : List Mk} {al : List Al} {n k c : Nat} {A : Option Go.Addr} {c' : Nat} (h : Var w0 w b ms al n k A c (some ⟨g, 0, none⟩) c') {p s : List Al} {x : Al} (hal : al = p ++ x :: s) :
    w.cell? ⟨g, s.length * 5 + 2, none⟩ = some (.int .i64 x.run) ∧ w.cell? ⟨g, s.length * 5 + 3, none⟩ = some (.bool x.ex) := by
  subst hal
  obtain ⟨hn, hk, h1, h2⟩ := h.own
  subst hk
  obtain ⟨e0, e1, e2, e3, e4⟩ := ac_at x s
  have hll : (p ++ x :: s).length = p.length + (s.length + 1) := by simp
  have hl2 := ac_length (x :: s)
  rw [List.length_cons] at hl2
  refine ⟨?_, ?_⟩
  · rw [h2.cellAt _ (by rw [hll]; omega), ac_append, List.getElem?_append_left (by omega)]; exact e2
  · rw [h2.cellAt _ (by rw [hll]; omega), ac_append, List.getElem?_append_left (by omega)]; exact e3
theorem mc_append (p l : List Mk) : mc (p ++ l) = mc l ++ mc p := by
  induction p with
  | nil => simp [mc]
  | cons x p ih => simp [mc, ih]
/-- The cell of a frame that a deferred call runs in. -/
theorem Var.dfCell {w0 w : Go.World} {b : Nat} {ms : List Mk} {al : List Al} {n k c u : Nat} {A A' : Option Go.Addr} {c' : Nat} (h : Var w0 w b ms al n k A c A' c') (hd : dfAt ms ((u : Int) + 1)) :
    ∃ g, A = some ⟨g, 0, none⟩ ∧ w.cell? ⟨g, u * 3 + 1, none⟩ = some (.bool true) := by
  obtain ⟨p, m, s, rfl, h1, h2⟩ := hd
  obtain ⟨hn, hk, h3, h4⟩ := h.own
  subst hn
  have hu : s.length = u := by omega
  subst hu
  obtain ⟨e0, e1, e2⟩ := mc_at m s
  have hll : (p ++ m :: s).length = p.length + (s.length + 1) := by simp
  have hl2 := mc_length (m :: s)
  rw [List.length_cons] at hl2
  rcases h3.2 with ⟨_, h0⟩ | ⟨g, cap, cur, he, _⟩
  · rw [hll] at h0; omega
  · injection he with h5 h6 h7
    subst h5
    refine ⟨g, rfl, ?_⟩
    rw [h3.cellAt _ (by rw [hll]; omega), mc_append, List.getElem?_append_left (by omega), e1, h2]
end Go.Proofs.Ytjlbmelpoaffpaa.Unw
