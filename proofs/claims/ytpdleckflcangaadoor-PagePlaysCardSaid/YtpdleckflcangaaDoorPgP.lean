/- besomlaw5.PagePlays: the page, the rows that mirror it, and the book. -/
import Derived.Test.YtpdleckflcangaaDoorWPageSweeps
import Derived.Test.YtpdleckflcangaaDoorBook11
import Derived.Test.YtpdleckflcangaaDoorBRow
namespace Go.Proofs.YtpdleckflcangaaDoor.Pg
open Go.RowKit Bit
set_option linter.unusedSimpArgs false
set_option linter.unusedVariables false

/-- A page, a row of bools that says which slots are used, one that says which are marked, and a book; what the book has lies from z on. -/
structure PL (w wr : World) (bp bu bm bk z : Nat) (c : Int) (n U M : Nat) (f g : Nat → Bool) : Prop where
  pw : PW w wr bp c n U M
  ub : Blk wr bu (bcf n f) 4
  mb : Blk wr bm (bcf n g) 4
  ne : bu ≠ bm
  nu : w.heap.size ≤ bu
  nm : w.heap.size ≤ bm
  zp : bp < z
  zu : bu < z
  zm : bm < z
  zz : z ≤ wr.heap.size
  book : Book.BookOk wr z bk
namespace PL
variable {w wr w' : World} {bp bu bm bk z n U M U' M' : Nat} {c : Int} {f g f' g' : Nat → Bool}
theorem nepu (h : PL w wr bp bu bm bk z c n U M f g) : bp ≠ bu := by
  intro e
  have h1 : wr.heap[bp]? = some (.cells _ 55 (0, 0)) := h.pw.page.blk
  have h2 : wr.heap[bu]? = some (.cells _ 4 (0, 0)) := h.ub
  rw [← e, h1] at h2
  injection h2 with h2
  injection h2 with _ h2
  exact absurd h2 (by decide)
theorem nepm (h : PL w wr bp bu bm bk z c n U M f g) : bp ≠ bm := by
  intro e
  have h1 : wr.heap[bp]? = some (.cells _ 55 (0, 0)) := h.pw.page.blk
  have h2 : wr.heap[bm]? = some (.cells _ 4 (0, 0)) := h.mb
  rw [← e, h1] at h2
  injection h2 with h2
  injection h2 with _ h2
  exact absurd h2 (by decide)
theorem call (h : PL w wr bp bu bm bk z c n U M f g) (hb : Below wr.heap.size wr w') : PL w w' bp bu bm bk z c n U M f g :=
  ⟨h.pw.call hb, h.ub.call hb, h.mb.call hb, h.ne, h.nu, h.nm, h.zp, h.zu, h.zm, Nat.le_trans h.zz hb.size, h.book.call hb⟩
theorem drewN (h : PL w wr bp bu bm bk z c n U M f g) (k : Nat) : PL w (wr.drewN k) bp bu bm bk z c n U M f g := h.call (below_drewN (Below.refl _ _) k)
/-- The page has turned. -/
theorem page (h : PL w wr bp bu bm bk z c n U M f g) (hw : 0 < w.heap.size) (hp : PageAt w' bp c n U' M') (hk : Kept (fun i => i = bp) wr w') : PL w w' bp bu bm bk z c n U' M' f g :=
  ⟨h.pw.upd hw hp hk, hk.blk h.ub h.nepu.symm, hk.blk h.mb h.nepm.symm, h.ne, h.nu, h.nm, h.zp, h.zu, h.zm, Nat.le_trans h.zz hk.size, h.book.kept hk (fun k e => by subst e; exact h.zp)⟩
theorem sweep (h : PL w wr bp bu bm bk z c n U M f g) (hw : 0 < w.heap.size) (hp : PageAt w' bp c n U' M') {w1 : World} (hk : Kept (fun i => i = bp) wr w1) (hs : w1.heap.size = wr.heap.size) (hb : Below w1.heap.size w1 w') : PL w w' bp bu bm bk z c n U' M' f g :=
  ⟨h.pw.sweep hw hp hk hs hb, (hk.blk h.ub h.nepu.symm).call hb, (hk.blk h.mb h.nepm.symm).call hb, h.ne, h.nu, h.nm, h.zp, h.zu, h.zm, Nat.le_trans h.zz (Nat.le_trans hk.size hb.size), (h.book.kept hk (fun k e => by subst e; exact h.zp)).call hb⟩
/-- The book has turned. -/
theorem told (h : PL w wr bp bu bm bk z c n U M f g) (hk : Kept (fun k => z ≤ k) wr w') (hb : Book.BookOk w' z bk) : PL w w' bp bu bm bk z c n U M f g :=
  ⟨⟨h.pw.page.keep (hk.block _ h.pw.page.blk.lt (by have := h.zp; omega)), h.pw.nb, h.pw.bel.trans (hk.below h.pw.bel.size (fun i hi e => by have := h.pw.nb; have := h.zp; omega)), h.pw.tab.kept hk (by have := h.zp; omega)⟩,
   hk.blk h.ub (by have := h.zu; omega), hk.blk h.mb (by have := h.zm; omega), h.ne, h.nu, h.nm, h.zp, h.zu, h.zm, Nat.le_trans h.zz hk.size, hb⟩
/-- One of the rows has turned. -/
theorem setU (h : PL w wr bp bu bm bk z c n U M f g) (j : Nat) (b : Bool) : PL w (wr.setCell ⟨bu, j, none⟩ (.bool b)) bp bu bm bk z c n U M (fun i => if i = j then b else f i) g := by
  have hk : Kept (fun i => i = bu) wr (wr.setCell ⟨bu, j, none⟩ (.bool b)) := (Kept.refl (fun i => i = bu) wr).set (p := ⟨bu, j, none⟩) (.inl rfl) _
  exact ⟨⟨h.pw.page.keep (hk.block _ h.pw.page.blk.lt h.nepu), h.pw.nb, h.pw.bel.trans (hk.below h.pw.bel.size (fun i hi e => by have := h.nu; omega)), h.pw.tab.kept hk (by have := h.nu; have := h.zu; have := h.pw.nb; intro e; have := h.pw.tab.1; subst e; exact absurd (show w.heap.size ≤ 0 from h.nu) (by
    intro h0
    have h1 := h.pw.tab.2 0 (by omega)
    have h2 := (show Blk wr 0 _ _ from h.ub).cell 0
    rw [h2] at h1
    have : (bcf n f)[0]? = some (.bool (f 0)) := bcf_get f h.pw.page.n0
    rw [this] at h1
    simp at h1))⟩,
   (h.ub.set j _).of_eq (bcf_set f b), h.mb.other (a := ⟨bu, j, none⟩) h.ne.symm _, h.ne, h.nu, h.nm, h.zp, h.zu, h.zm, Nat.le_trans h.zz hk.size, h.book.kept hk (fun k e => by subst e; exact h.zu)⟩
theorem setM (h : PL w wr bp bu bm bk z c n U M f g) (j : Nat) (b : Bool) : PL w (wr.setCell ⟨bm, j, none⟩ (.bool b)) bp bu bm bk z c n U M f (fun i => if i = j then b else g i) := by
  have hk : Kept (fun i => i = bm) wr (wr.setCell ⟨bm, j, none⟩ (.bool b)) := (Kept.refl (fun i => i = bm) wr).set (p := ⟨bm, j, none⟩) (.inl rfl) _
  exact ⟨⟨h.pw.page.keep (hk.block _ h.pw.page.blk.lt h.nepm), h.pw.nb, h.pw.bel.trans (hk.below h.pw.bel.size (fun i hi e => by have := h.nm; omega)), h.pw.tab.kept hk (by
    intro e
    subst e
    have h1 := h.pw.tab.2 0 (by omega)
    have h2 := (show Blk wr 0 _ _ from h.mb).cell 0
    rw [h2] at h1
    have : (bcf n g)[0]? = some (.bool (g 0)) := bcf_get g h.pw.page.n0
    rw [this] at h1
    simp at h1)⟩,
   h.ub.other (a := ⟨bm, j, none⟩) h.ne _, (h.mb.set j _).of_eq (bcf_set g b), h.ne, h.nu, h.nm, h.zp, h.zu, h.zm, Nat.le_trans h.zz hk.size, h.book.kept hk (fun k e => by subst e; exact h.zm)⟩
/-- Both rows have turned, and nothing else that was there. -/
theorem rows (h : PL w wr bp bu bm bk z c n U M f g) (hk : Kept (fun i => i = bu ∨ i = bm) wr w') (hu : Blk w' bu (bcf n f') 4) (hm : Blk w' bm (bcf n g') 4) : PL w w' bp bu bm bk z c n U M f' g' := by
  have h0 : ∀ b : Nat, (b = bu ∨ b = bm) → b ≠ 0 := by
    rintro b hb rfl
    have h1 := h.pw.tab.2 0 (by omega)
    rcases hb with hb | hb
    · have h2 := (show Blk wr 0 _ _ from hb ▸ h.ub).cell 0
      rw [h2, bcf_get f h.pw.page.n0] at h1
      simp at h1
    · have h2 := (show Blk wr 0 _ _ from hb ▸ h.mb).cell 0
      rw [h2, bcf_get g h.pw.page.n0] at h1
      simp at h1
  exact ⟨⟨h.pw.page.keep (hk.block _ h.pw.page.blk.lt (fun e => e.elim h.nepu h.nepm)), h.pw.nb, h.pw.bel.trans (hk.below h.pw.bel.size (fun i hi e => by have := h.nu; have := h.nm; omega)), h.pw.tab.kept hk (fun e => e.elim (fun e => h0 bu (.inl rfl) e.symm) (fun e => h0 bm (.inr rfl) e.symm))⟩,
   hu, hm, h.ne, h.nu, h.nm, h.zp, h.zu, h.zm, Nat.le_trans h.zz hk.size, h.book.kept hk (fun k e => by have := h.zu; have := h.zm; omega)⟩
theorem congr (h : PL w wr bp bu bm bk z c n U M f g) (hf : ∀ i, i < n → f i = f' i) (hg : ∀ i, i < n → g i = g' i) : PL w wr bp bu bm bk z c n U M f' g' :=
  { h with ub := h.ub.of_eq (bcf_congr hf), mb := h.mb.of_eq (bcf_congr hg) }
end PL
/-- The rows say what the page says. -/
def PQ (w wr : World) (bp bu bm bk z : Nat) (c : Int) (n U M : Nat) : Prop := PL w wr bp bu bm bk z c n U M U.testBit M.testBit
end Go.Proofs.YtpdleckflcangaaDoor.Pg
