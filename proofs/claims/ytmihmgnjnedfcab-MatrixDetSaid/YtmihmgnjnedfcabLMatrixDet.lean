import Derived.Test.YtmihmgnjnedfcabRows
import Derived.Test.YtmihmgnjnedfcabBC
import Derived.Test.YtmihmgnjnedfcabBI
import Derived.WalkKit
import Derived.ProofKit
import Derived.OpenShut
import Derived.ShutString
import Derived.ChangeOld
import Derived.SizedLaws

section
/- For every field's description and every two matrices. The law MatrixDet answers true, and the arguments read behind it as they read before. No condition. -/
namespace Go.Proofs.Ytmihmgnjnedfcab.matrixDet
open Go Go.AM Go.AM.Ytmihmgnjnedfcab Go.ChangeShapes
set_option linter.unusedVariables false
set_option maxRecDepth 100000
set_option linter.unusedSimpArgs false

theorem own : ownKnob Try.prog.godebug = none := by kernel_rfl

theorem contract2 (a0 a1 a2 : AV) (h : AOpen Try.prog 6 [24, 27, 27] [a0, a1, a2]) : Pure Try.prog 11 [a0, a1, a2] (B true) := by
  obtain ⟨⟨v0, h0, e0⟩, h⟩ := h.cons
  obtain ⟨⟨v1, h1, e1⟩, h⟩ := h.cons
  obtain ⟨⟨v2, h2, e2⟩, h⟩ := h.cons
  obtain ⟨p0, m0, mv0, mo0, rfl, f0, g0⟩ := open_fieldM h0
  rw [argAV_struct Try.underlying24] at e0
  obtain ⟨c1, w1, L1, rfl, f1, g1⟩ := open_matrix h1
  rw [argAV_struct Try.underlying27] at e1
  obtain ⟨c2, w2, L2, rfl, f2, g2⟩ := open_matrix h2
  rw [argAV_struct Try.underlying27] at e2
  subst e0 e1 e2
  exact s_MatrixDet f0 g0 f1 g1 f2 g2

theorem contract (xs : List AV) (h : AOpen Try.prog 6 Try.f11.params.toList xs) : Pure Try.prog 11 xs (B true) := by
  have h2 : AOpen Try.prog 6 [24, 27, 27] xs := by
    have e : Try.f11.params.toList = [24, 27, 27] := congrArg Array.toList Try.params11
    rw [e] at h; exact h
  clear h
  have hl := h2.len
  simp only [List.length_cons, List.length_nil] at hl
  obtain ⟨a0, a1, a2, rfl⟩ : ∃ a0 a1 a2, xs = [a0, a1, a2] := by
    match xs, hl with
    | [a0, a1, a2], _ => exact ⟨a0, a1, a2, rfl⟩
  exact contract2 a0 a1 a2 h2

theorem lifted (os : Os) (started : os.Started) (H : Type) (enc : TypeId × Value → H) :
    ReturnsInHanded {} Try.checked os 11 .any (Rows.matrixDetSpec.pre6 enc Try.prog Try.f11 Rows.matrixDetRow.domain false) (Rows.matrixDetSpec.post enc Try.prog Try.f11 false true false false) := by
  refine law_lifted (C := Try.checked) (tb := 4) 6 own started (by kernel_rfl) Try.func11
    (ChangeSpec.witness6 (enc := enc) (C := Try.checked) false ⟨#[], #[.agg #[.int .i64 0, .int .i64 0, .slice none 0 0], .agg #[.int .i64 0, .slice none 0 0], .agg #[.int .i64 0, .slice none 0 0]], []⟩ 8 (by kernel_rfl) (by kernel_rfl) (by kernel_rfl) (by kernel_rfl)) rfl rfl Try.underlying4 (by kernel_rfl) (by kernel_rfl) (by kernel_rfl) (fun ds hd => ?_) contract
  match ds, hd with
  | [d1, d2, d3], _ => rfl

theorem over : Rows.matrixDetRow.holds Try.pinned (OpenSpec.ofChange Rows.matrixDetSpec) :=
  OpenClaim.holds_of_wide 11 Try.f11 rfl rfl rfl rfl rfl rfl rfl ⟨rfl, rfl, rfl, rfl, rfl⟩ rfl rfl rfl rfl rfl (by kernel_rfl) Try.func11 (by kernel_rfl)
    (of_decide_eq_true (by kernel_rfl)) (by unfold Func.isWrapper; first | (rw [if_pos (by decide +kernel)]; kernel_rfl) | (rw [if_neg (by decide +kernel)]; exact ⟨rfl, rfl⟩))
    (fun os started H enc _ => lifted os started H enc)
theorem proved : Rows.MatrixDetSaid := over
end Go.Proofs.Ytmihmgnjnedfcab.matrixDet
namespace Go.Proofs.Ytmihmgnjnedfcab
/-- The row, under a short name, for the claim. -/
theorem matrixDet_holds : Rows.MatrixDetSaid := matrixDet.proved
#print axioms matrixDet_holds
end Go.Proofs.Ytmihmgnjnedfcab
end
