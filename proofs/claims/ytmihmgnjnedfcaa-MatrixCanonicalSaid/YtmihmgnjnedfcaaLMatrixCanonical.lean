import Derived.Test.YtmihmgnjnedfcaaRows
import Derived.Test.YtmihmgnjnedfcaaBC
import Derived.Test.YtmihmgnjnedfcaaBH
import Derived.WalkKit
import Derived.ProofKit
import Derived.OpenShut
import Derived.ShutString
import Derived.ChangeOld
import Derived.SizedLaws

section
/- For every field's description and every matrix. The law MatrixCanonical answers true, and the arguments read behind it as they read before. No condition. -/
namespace Go.Proofs.Ytmihmgnjnedfcaa.matrixCanonical
open Go Go.AM Go.AM.Ytmihmgnjnedfcaa Go.ChangeShapes
set_option linter.unusedVariables false
set_option maxRecDepth 100000
set_option linter.unusedSimpArgs false

theorem own : ownKnob Try.prog.godebug = none := by kernel_rfl

theorem contract2 (a0 a1 : AV) (h : AOpen Try.prog 6 [51, 83] [a0, a1]) : Pure Try.prog 14 [a0, a1] (B true) := by
  obtain ⟨⟨v0, h0, e0⟩, h⟩ := h.cons
  obtain ⟨⟨v1, h1, e1⟩, h⟩ := h.cons
  obtain ⟨p0, m0, mv0, mo0, rfl, f0, g0⟩ := open_fieldM h0
  rw [argAV_struct Try.underlying51] at e0
  obtain ⟨c1, w1, L1, rfl, f1, g1⟩ := open_matrix h1
  rw [argAV_struct Try.underlying83] at e1
  subst e0 e1
  exact s_MatrixCanonical f0 g0 f1 g1

theorem contract (xs : List AV) (h : AOpen Try.prog 6 Try.f14.params.toList xs) : Pure Try.prog 14 xs (B true) := by
  have h2 : AOpen Try.prog 6 [51, 83] xs := by
    have e : Try.f14.params.toList = [51, 83] := congrArg Array.toList Try.params14
    rw [e] at h; exact h
  clear h
  have hl := h2.len
  simp only [List.length_cons, List.length_nil] at hl
  obtain ⟨a0, a1, rfl⟩ : ∃ a0 a1, xs = [a0, a1] := by
    match xs, hl with
    | [a0, a1], _ => exact ⟨a0, a1, rfl⟩
  exact contract2 a0 a1 h2

theorem lifted (os : Os) (started : os.Started) (H : Type) (enc : TypeId × Value → H) :
    ReturnsInHanded {} Try.checked os 14 .any (Rows.matrixCanonicalSpec.pre6 enc Try.prog Try.f14 Rows.matrixCanonicalRow.domain false) (Rows.matrixCanonicalSpec.post enc Try.prog Try.f14 false true false false) := by
  refine law_lifted (C := Try.checked) (tb := 4) 6 own started (by kernel_rfl) Try.func14
    (ChangeSpec.witness6 (enc := enc) (C := Try.checked) false ⟨#[], #[.agg #[.int .i64 0, .int .i64 0, .slice none 0 0], .agg #[.int .i64 0, .slice none 0 0]], []⟩ 8 (by kernel_rfl) (by kernel_rfl) (by kernel_rfl) (by kernel_rfl)) rfl rfl Try.underlying4 (by kernel_rfl) (by kernel_rfl) (by kernel_rfl) (fun ds hd => ?_) contract
  match ds, hd with
  | [d1, d2], _ => rfl

theorem over : Rows.matrixCanonicalRow.holds Try.pinned (OpenSpec.ofChange Rows.matrixCanonicalSpec) :=
  OpenClaim.holds_of_wide 14 Try.f14 rfl rfl rfl rfl rfl rfl rfl ⟨rfl, rfl, rfl, rfl, rfl⟩ rfl rfl rfl rfl rfl (by kernel_rfl) Try.func14 (by kernel_rfl)
    (of_decide_eq_true (by kernel_rfl)) (by unfold Func.isWrapper; first | (rw [if_pos (by decide +kernel)]; kernel_rfl) | (rw [if_neg (by decide +kernel)]; exact ⟨rfl, rfl⟩))
    (fun os started H enc _ => lifted os started H enc)
theorem proved : Rows.MatrixCanonicalSaid := over
end Go.Proofs.Ytmihmgnjnedfcaa.matrixCanonical
namespace Go.Proofs.Ytmihmgnjnedfcaa
/-- The row, under a short name, for the claim. -/
theorem matrixCanonical_holds : Rows.MatrixCanonicalSaid := matrixCanonical.proved
#print axioms matrixCanonical_holds
end Go.Proofs.Ytmihmgnjnedfcaa
end
