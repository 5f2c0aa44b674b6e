/- Plain law of package unwind for a task that does nothing more than what is next. No program in sight. -/
import Derived.Test.YtjlbmelpoaffpaaUnwV
namespace Go.Proofs.Ytjlbmelpoaffpaa.Unw
set_option linter.unusedVariables false
set_option linter.unusedSimpArgs false

/-- How many deferred calls wait. -/
def sumT : List Mk → Int
  | [] => 0
  | m :: r => m.th + sumT r
/-- How many steps are left at most. -/
def mu : List Mk → Int
  | [] => 0
  | m :: r => 3 * m.th + (if m.lv then 1 else 2) + mu r
/-- Frames that no deferred call runs in, with few deferred calls. -/
def Base (ms : List Mk) : Prop := ∀ m ∈ ms, m.df = false ∧ 0 ≤ m.th ∧ m.th ≤ 3
/-- The frame of a deferred call. -/
def isTh (m : Mk) : Prop := m.df = true ∧ m.th = 0
theorem base_ok {ms : List Mk} (h : Base ms) : okT ms := fun m hm => ⟨(h m hm).2.1, by have := (h m hm).2.2; omega⟩
theorem base_cons {m : Mk} {r : List Mk} : Base (m :: r) ↔ (m.df = false ∧ 0 ≤ m.th ∧ m.th ≤ 3) ∧ Base r := by
  simp [Base]
theorem th_ok {m : Mk} {r : List Mk} (hm : isTh m) (h : Base r) : okT (m :: r) := fun x hx => by
  rcases List.mem_cons.1 hx with rfl | hx
  · have := hm.2; exact ⟨by omega, by omega⟩
  · exact base_ok h x hx
theorem mu_nonneg {ms : List Mk} (h : okT ms) : 0 ≤ mu ms := by
  induction ms with
  | nil => simp [mu]
  | cons m r ih =>
    have h1 := h m List.mem_cons_self
    have h2 := ih fun x hx => h x (List.mem_cons_of_mem _ hx)
    simp only [mu]
    split <;> omega
theorem mu_le {ms : List Mk} (h : Base ms) : mu ms ≤ 11 * ms.length := by
  induction ms with
  | nil => simp [mu]
  | cons m r ih =>
    obtain ⟨h1, h2⟩ := base_cons.1 h
    have h3 := ih h2
    simp only [mu, List.length_cons]
    split <;> omega
theorem len_mu {ms : List Mk} (h : okT ms) : (ms.length : Int) ≤ mu ms := by
  induction ms with
  | nil => simp [mu]
  | cons m r ih =>
    have h1 := h m List.mem_cons_self
    have h2 := ih fun x hx => h x (List.mem_cons_of_mem _ hx)
    simp only [mu, List.length_cons]
    split <;> omega
theorem sumT_le {ms : List Mk} (h : Base ms) : 0 ≤ sumT ms ∧ sumT ms ≤ 3 * ms.length := by
  induction ms with
  | nil => simp [sumT]
  | cons m r ih =>
    obtain ⟨h1, h2⟩ := base_cons.1 h
    have h3 := ih h2
    simp only [sumT, List.length_cons]
    omega
theorem sumT_ok {ms : List Mk} (h : okT ms) : 0 ≤ sumT ms := by
  induction ms with
  | nil => simp [sumT]
  | cons m r ih =>
    have h1 := h m List.mem_cons_self
    have h2 := ih fun x hx => h x (List.mem_cons_of_mem _ hx)
    simp only [sumT]
    omega
/-- The alarm of a task that ends. -/
def alarmE (ex : Bool) (code run : Int) (rc : Bool) : Al := ⟨if ex then 0 else code, 0, run, ex, rc⟩
/-- Where a task may be that does nothing more than what is next: saved: its deferred calls recover. -/
inductive At (ex saved : Bool) (code : Int) : List Mk → List Al → Bool → Prop
  | a {ms : List Mk} : Base ms → At ex saved code ms [alarmE ex code 0 false] false
  | b {m : Mk} {r : List Mk} : isTh m → Base r → At ex saved code (m :: r) [alarmE ex code ((r.length : Int) + 1) (saved && !ex)] (saved && !ex)
  | c {ms : List Mk} : Base ms → saved = true → ex = false → At ex saved code ms [] true
  | d {m : Mk} {r : List Mk} : isTh m → Base r → saved = true → ex = false → At ex saved code (m :: r) [] true
theorem At.ok {ex saved rec : Bool} {code : Int} {ms : List Mk} {al : List Al} (h : At ex saved code ms al rec) : okT ms := by
  cases h with
  | a h => exact base_ok h
  | b h1 h2 => exact th_ok h1 h2
  | c h => exact base_ok h
  | d h1 h2 => exact th_ok h1 h2
theorem At.al {ex saved rec : Bool} {code : Int} {ms : List Mk} {al : List Al} (h : At ex saved code ms al rec) : al.length ≤ 1 := by
  cases h <;> simp
theorem unw_E (ex : Bool) (code : Int) (rc : Bool) : unw [alarmE ex code 0 rc] = true := rfl
theorem unw_R (ex : Bool) (code : Int) (n : Nat) (rc : Bool) : unw [alarmE ex code ((n : Int) + 1) rc] = false := by
  show (((n : Int) + 1) == 0) = false
  simp; omega

/-- What is next, and what is then: a deferred call is begun. -/
theorem At.thunk {ex saved rec : Bool} {code : Int} {ms : List Mk} {al : List Al} (h : At ex saved code ms al rec) (hn : next ms al = 1) :
    ∃ m r, ms = m :: r ∧ 0 < m.th ∧ m.th ≤ 3 ∧ Base (m :: r) ∧ thunkM ms al = ⟨false, true, 0⟩ :: { m with th := m.th - 1 } :: r ∧
      ((al = [alarmE ex code 0 false] ∧ rec = false ∧ thunkA ms al = [alarmE ex code ((r.length : Int) + 1 + 1) false]) ∨ (al = [] ∧ rec = true ∧ saved = true ∧ ex = false ∧ thunkA ms al = [])) := by
  rcases ms with _ | ⟨m, r⟩
  · rcases next_nil al with h1 | h1 <;> rw [h1] at hn <;> simp at hn
  · have h0 := next_one hn
    cases h with
    | a hb =>
      obtain ⟨h1, h2⟩ := base_cons.1 hb
      refine ⟨m, r, rfl, h0, h1.2.2, hb, ?_, .inl ⟨rfl, rfl, ?_⟩⟩
      · unfold thunkM; rw [if_pos hn]
      · unfold thunkA; rw [if_pos ⟨hn, rfl⟩]; simp [alarmE]
    | b h1 h2 => have := h1.2; omega
    | c hb hs he =>
      obtain ⟨h1, h2⟩ := base_cons.1 hb
      refine ⟨m, r, rfl, h0, h1.2.2, hb, ?_, .inr ⟨rfl, rfl, hs, he, ?_⟩⟩
      · unfold thunkM; rw [if_pos hn]
      · unfold thunkA; rw [if_neg (fun x => by simp [unw] at x)]
    | d h1 h2 => have := h1.2; omega
theorem sumT_th (m : Mk) (r : List Mk) : sumT (⟨false, true, 0⟩ :: { m with th := m.th - 1 } :: r) = sumT (m :: r) - 1 := by simp [sumT]; omega
theorem mu_th (m : Mk) (r : List Mk) : mu (⟨false, true, 0⟩ :: { m with th := m.th - 1 } :: r) = mu (m :: r) - 1 := by
  simp only [mu]
  cases m.lv
  · simp only [Bool.false_eq_true, if_false]; omega
  · simp only [Bool.false_eq_true, if_false, if_true]; omega
theorem base_dec {m : Mk} {r : List Mk} (h : Base (m :: r)) (h0 : 0 < m.th) : Base ({ m with th := m.th - 1 } :: r) := by
  obtain ⟨h1, h2⟩ := base_cons.1 h
  exact base_cons.2 ⟨⟨h1.1, by show 0 ≤ m.th - 1; omega, by show m.th - 1 ≤ 3; omega⟩, h2⟩
/-- The top leaves. -/
theorem At.leaves {ex saved rec : Bool} {code : Int} {ms : List Mk} {al : List Al} (h : At ex saved code ms al rec) (hn : next ms al = 0) :
    At ex saved code (leave ms) al rec ∧ sumT (leave ms) = sumT ms ∧ mu (leave ms) < mu ms ∧ (leave ms).length = ms.length := by
  rcases ms with _ | ⟨m, r⟩
  · rcases next_nil al with h1 | h1 <;> rw [h1] at hn <;> simp at hn
  · rw [next_cons] at hn
    have hlv : unw al = false ∧ m.lv = false := by
      by_cases hc : (!unw al && !m.lv) = true
      · simpa using hc
      · rw [if_neg hc] at hn; split at hn <;> simp at hn
    have hb : ∀ {m : Mk} {r : List Mk}, Base (m :: r) → Base ({ m with lv := true } :: r) := fun hb => base_cons.2 ⟨(base_cons.1 hb).1, (base_cons.1 hb).2⟩
    refine ⟨?_, by simp [Unw.leave, sumT], by simp [Unw.leave, mu, hlv.2], by simp [Unw.leave]⟩
    cases h with
    | a h => simp [unw_E] at hlv
    | b h1 h2 => exact .b (m := { m with lv := true }) h1 h2
    | c h hs he => exact .c (hb h) hs he
    | d h1 h2 hs he => exact .d (m := { m with lv := true }) h1 h2 hs he
/-- The top is taken away. -/
theorem At.pop {ex saved rec : Bool} {code : Int} {ms : List Mk} {al : List Al} (h : At ex saved code ms al rec) (hn : next ms al = 2) :
    At ex saved code (popM ms al) (popA ms al) rec ∧ sumT (popM ms al) = sumT ms ∧ mu (popM ms al) < mu ms ∧ (popM ms al).length < ms.length := by
  rcases ms with _ | ⟨m, r⟩
  · rcases next_nil al with h1 | h1 <;> rw [h1] at hn <;> simp at hn
  · have hth : m.th ≤ 0 := by
      rw [next_cons] at hn
      split at hn
      · simp at hn
      · split at hn
        · simp at hn
        · omega
    have hmu : ∀ r : List Mk, m.th = 0 → mu r < mu (m :: r) := fun r h0 => by simp only [mu]; split <;> omega
    have hsum : ∀ r : List Mk, m.th = 0 → sumT r = sumT (m :: r) := fun r h0 => by simp only [sumT]; omega
    have hmul : ∀ r : List Mk, mu (leave r) ≤ mu r := fun r => by
      cases r with
      | nil => simp [Unw.leave]
      | cons x q => cases hx : x.lv <;> simp [Unw.leave, mu, hx]
    have hsl : ∀ r : List Mk, sumT (leave r) = sumT r := fun r => by cases r <;> rfl
    have hll : ∀ r : List Mk, (leave r).length = r.length := fun r => by cases r <;> rfl
    have hbl : ∀ r : List Mk, Base r → Base (leave r) := fun r h => by
      cases r with
      | nil => exact h
      | cons x q => exact base_cons.2 ⟨(base_cons.1 h).1, (base_cons.1 h).2⟩
    cases h with
    | a hb =>
      obtain ⟨h1, h2⟩ := base_cons.1 hb
      have h0 : m.th = 0 := by omega
      simp only [popM, popA, unw_E, if_true, abA, abR]
      exact ⟨.a h2, (hsum r h0), hmu r h0, by simp⟩
    | b h1 h2 =>
      have h0 := h1.2
      simp only [popM, popA, unw_R, Bool.false_eq_true, if_false, endM, endA]
      by_cases hs : (saved && !ex) = true
      · rw [hs]
        simp only [alarmE, if_true]
        have : saved = true ∧ ex = false := by simpa using hs
        exact ⟨.c (hbl r h2) this.1 this.2, by rw [hsl]; exact hsum r h0, Int.lt_of_le_of_lt (hmul r) (hmu r h0), by rw [hll]; simp⟩
      · have hs' : (saved && !ex) = false := by simpa using hs
        rw [hs']
        simp only [alarmE, if_true, Bool.false_eq_true, if_false]
        exact ⟨.a h2, hsum r h0, hmu r h0, by simp⟩
    | c hb hs he =>
      obtain ⟨h1, h2⟩ := base_cons.1 hb
      have h0 : m.th = 0 := by omega
      exact ⟨.c h2 hs he, hsum r h0, hmu r h0, by simp [popM, unw, endM]⟩
    | d h1 h2 hs he => exact ⟨.c h2 hs he, hsum r h1.2, hmu r h1.2, by simp [popM, unw, endM]⟩
/-- It has ended. -/
theorem At.ended {ex saved rec : Bool} {code : Int} {ms : List Mk} {al : List Al} (h : At ex saved code ms al rec) (hn : next ms al = 3) : sumT ms = 0 ∧ (ex || rec) = true := by
  rcases ms with _ | ⟨m, r⟩
  · cases h with
    | a hb =>
      have : (if ex then (3 : Int) else 4) = 3 := hn
      cases ex
      · simp at this
      · exact ⟨rfl, rfl⟩
    | c hb hs he => exact ⟨rfl, by simp⟩
  · rw [next_cons] at hn
    split at hn
    · simp at hn
    · split at hn <;> simp at hn
theorem At.fatal {ex saved rec : Bool} {code : Int} {ms : List Mk} {al : List Al} (h : At ex saved code ms al rec) (hn : next ms al = 4) : sumT ms = 0 ∧ ex = false ∧ rec = false ∧ al = [⟨code, 0, 0, false, false⟩] := by
  rcases ms with _ | ⟨m, r⟩
  · cases h with
    | a hb =>
      have : (if ex then (3 : Int) else 4) = 4 := hn
      cases ex
      · exact ⟨rfl, rfl, rfl, rfl⟩
      · simp at this
    | c hb hs he => simp [next] at hn
  · rw [next_cons] at hn
    split at hn
    · simp at hn
    · split at hn <;> simp at hn
theorem next_ways (ms : List Mk) (al : List Al) : next ms al = 0 ∨ next ms al = 1 ∨ next ms al = 2 ∨ next ms al = 3 ∨ next ms al = 4 := by
  rcases ms with _ | ⟨m, r⟩
  · rcases next_nil al with h | h <;> simp [h]
  · rw [next_cons]
    split
    · simp
    · split <;> simp
end Go.Proofs.Ytjlbmelpoaffpaa.Unw
