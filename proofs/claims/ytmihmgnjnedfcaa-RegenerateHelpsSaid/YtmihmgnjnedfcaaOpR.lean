/- How the arguments of the laws about regenerating codes are opened. -/
import Derived.Test.YtmihmgnjnedfcaaAMR
import Derived.Test.YtmihmgnjnedfcaaR3
import Derived.Test.YtmihmgnjnedfcaaProg
import Derived.KernelRfl
namespace Go.AM.Ytmihmgnjnedfcaa
open Go Go.AM Go.ChangeShapes
set_option linter.unusedVariables false
set_option maxRecDepth 100000
set_option linter.unusedSimpArgs false
open Go.Proofs

theorem c3 : Try.prog.cellsOf 3 = 1 := by kernel_rfl
theorem b3 : 0 < Try.prog.bytesOf 3 := of_decide_eq_true (by kernel_rfl)

/-- A field's description, opened. -/
theorem open_field {n : Nat} {avs : List AV} (h : OpenT Try.prog (n + 3) 51 avs) : ∃ (p m : Int) (mv : AV) (mo : List Int), avs = [I p, I m, mv] ∧ IL mv mo ∧ mo.length < 4611686018427387904 := by
  obtain ⟨l0, l1, l2, rfl, h0, h1, h2⟩ := OpenT.struct3 Try.underlying51 h
  obtain ⟨p, rfl, _⟩ := OpenT.int Try.underlying3 h0
  obtain ⟨m, rfl, _⟩ := OpenT.int Try.underlying3 h1
  obtain ⟨mv, mo, rfl, g1, g2, _⟩ := OpenT.ints Try.underlying29 Try.underlying3 c3 b3 h2
  exact ⟨p, m, mv, mo, rfl, g1, g2⟩

/-- A regenerating code, opened. -/
theorem open_regen {n : Nat} {avs : List AV} (h : OpenT Try.prog (n + 4) 53 avs) : ∃ (R : Rc) (mv pv : AV), avs = R.cells mv pv ∧ IL mv R.mo ∧ R.mo.length < 4611686018427387904 ∧ IL pv R.pts ∧ R.pts.length < 4611686018427387904 := by
  obtain ⟨l0, l1, l2, l3, l4, rfl, h0, h1, h2, h3, h4⟩ := OpenT.struct5 Try.underlying53 h
  obtain ⟨p, m, mv, mo, rfl, g1, g2⟩ := open_field h0
  obtain ⟨kd, rfl, _⟩ := OpenT.int Try.underlying3 h1
  obtain ⟨k, rfl, _⟩ := OpenT.int Try.underlying3 h2
  obtain ⟨d, rfl, _⟩ := OpenT.int Try.underlying3 h3
  obtain ⟨pv, pts, rfl, g3, g4, _⟩ := OpenT.ints Try.underlying29 Try.underlying3 c3 b3 h4
  exact ⟨⟨p, m, mo, kd, k, d, pts⟩, mv, pv, rfl, g1, g2, g3, g4⟩
end Go.AM.Ytmihmgnjnedfcaa
