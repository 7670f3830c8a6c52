import Derived.Test.YtmihmgnjnedfcabRows
import Derived.Test.YtmihmgnjnedfcabBC
import Derived.Test.YtmihmgnjnedfcabBI
import Derived.WalkKit
import Derived.ProofKit
import Derived.OpenShut
import Derived.ShutString
import Derived.ChangeOld
import Derived.SizedLaws

section
/- For every field's description, every matrix and every three small numbers. The law MatrixUnique answers true, and the arguments read behind it as they read before. No condition. -/
namespace Go.Proofs.Ytmihmgnjnedfcab.matrixUnique
open Go Go.AM Go.AM.Ytmihmgnjnedfcab Go.ChangeShapes
set_option linter.unusedVariables false
set_option maxRecDepth 100000
set_option linter.unusedSimpArgs false

theorem in8 {z : Int} (h : (Lit.int .u8 z).wf = true) : 0 ≤ z ∧ z ≤ 255 := by
  simp only [Lit.wf, IntKind.min, IntKind.max, IntKind.signed, IntKind.bits, Bool.and_eq_true, decide_eq_true_eq] at h
  simp at h
  omega
theorem open_arr3 {n : Nat} {avs : List AV} (h : OpenT Try.prog (n + 2) 38 avs) : ∃ x y z : Int, avs = [U8 x, U8 y, U8 z] ∧ (0 ≤ x ∧ x ≤ 255) ∧ (0 ≤ y ∧ y ≤ 255) ∧ (0 ≤ z ∧ z ≤ 255) := by
  obtain ⟨L, h1, h2, h3⟩ := OpenT.array Try.underlying38 h
  match L, h2 with
  | [l0, l1, l2], _ =>
    obtain ⟨x, rfl, hx⟩ := OpenT.int Try.underlying5 (h3 l0 (by simp)).1
    obtain ⟨y, rfl, hy⟩ := OpenT.int Try.underlying5 (h3 l1 (by simp)).1
    obtain ⟨z, rfl, hz⟩ := OpenT.int Try.underlying5 (h3 l2 (by simp)).1
    exact ⟨x, y, z, by simpa using h1, in8 hx, in8 hy, in8 hz⟩

theorem own : ownKnob Try.prog.godebug = none := by kernel_rfl

theorem contract2 (a0 a1 a2 : AV) (h : AOpen Try.prog 6 [24, 27, 38] [a0, a1, a2]) : Pure Try.prog 4 [a0, a1, a2] (B true) := by
  obtain ⟨⟨v0, h0, e0⟩, h⟩ := h.cons
  obtain ⟨⟨v1, h1, e1⟩, h⟩ := h.cons
  obtain ⟨⟨v2, h2, e2⟩, h⟩ := h.cons
  obtain ⟨p0, m0, mv0, mo0, rfl, f0, g0⟩ := open_fieldM h0
  rw [argAV_struct Try.underlying24] at e0
  obtain ⟨c1, w1, L1, rfl, f1, g1⟩ := open_matrix h1
  rw [argAV_struct Try.underlying27] at e1
  obtain ⟨z2a, z2b, z2c, rfl, f2, g2, s2⟩ := open_arr3 h2
  rw [argAV_array Try.underlying38] at e2
  subst e0 e1 e2
  exact s_MatrixUnique f0 g0 f1 g1 f2 g2 s2

theorem contract (xs : List AV) (h : AOpen Try.prog 6 Try.f4.params.toList xs) : Pure Try.prog 4 xs (B true) := by
  have h2 : AOpen Try.prog 6 [24, 27, 38] xs := by
    have e : Try.f4.params.toList = [24, 27, 38] := congrArg Array.toList Try.params4
    rw [e] at h; exact h
  clear h
  have hl := h2.len
  simp only [List.length_cons, List.length_nil] at hl
  obtain ⟨a0, a1, a2, rfl⟩ : ∃ a0 a1 a2, xs = [a0, a1, a2] := by
    match xs, hl with
    | [a0, a1, a2], _ => exact ⟨a0, a1, a2, rfl⟩
  exact contract2 a0 a1 a2 h2

theorem lifted (os : Os) (started : os.Started) (H : Type) (enc : TypeId × Value → H) :
    ReturnsInHanded {} Try.checked os 4 .any (Rows.matrixUniqueSpec.pre6 enc Try.prog Try.f4 Rows.matrixUniqueRow.domain false) (Rows.matrixUniqueSpec.post enc Try.prog Try.f4 false true false false) := by
  refine law_lifted (C := Try.checked) (tb := 4) 6 own started (by kernel_rfl) Try.func4
    (ChangeSpec.witness6 (enc := enc) (C := Try.checked) false ⟨#[], #[.agg #[.int .i64 0, .int .i64 0, .slice none 0 0], .agg #[.int .i64 0, .slice none 0 0], .agg #[.int .u8 0, .int .u8 0, .int .u8 0]], []⟩ 8 (by kernel_rfl) (by kernel_rfl) (by kernel_rfl) (by kernel_rfl)) rfl rfl Try.underlying4 (by kernel_rfl) (by kernel_rfl) (by kernel_rfl) (fun ds hd => ?_) contract
  match ds, hd with
  | [d1, d2, d3], _ => rfl

theorem over : Rows.matrixUniqueRow.holds Try.pinned (OpenSpec.ofChange Rows.matrixUniqueSpec) :=
  OpenClaim.holds_of_wide 4 Try.f4 rfl rfl rfl rfl rfl rfl rfl ⟨rfl, rfl, rfl, rfl, rfl⟩ rfl rfl rfl rfl rfl (by kernel_rfl) Try.func4 (by kernel_rfl)
    (of_decide_eq_true (by kernel_rfl)) (by unfold Func.isWrapper; first | (rw [if_pos (by decide +kernel)]; kernel_rfl) | (rw [if_neg (by decide +kernel)]; exact ⟨rfl, rfl⟩))
    (fun os started H enc _ => lifted os started H enc)
theorem proved : Rows.MatrixUniqueSaid := over
end Go.Proofs.Ytmihmgnjnedfcab.matrixUnique
namespace Go.Proofs.Ytmihmgnjnedfcab
/-- The row, under a short name, for the claim. -/
theorem matrixUnique_holds : Rows.MatrixUniqueSaid := matrixUnique.proved
#print axioms matrixUnique_holds
end Go.Proofs.Ytmihmgnjnedfcab
end
