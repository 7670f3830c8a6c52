import Derived.Test.YtmihmgnjnedfcaaRows
import Derived.Test.YtmihmgnjnedfcaaBB
import Derived.Test.YtmihmgnjnedfcaaBD
import Derived.WalkKit
import Derived.ProofKit
import Derived.OpenShut
import Derived.ShutString
import Derived.ChangeOld
import Derived.SizedLaws

section
/- For every description of a regenerating code and every file: the law RegenerateEncodes answers true, and the arguments read behind it as they read before. No condition. -/
namespace Go.Proofs.Ytmihmgnjnedfcaa.regenerateEncodes
open Go Go.AM Go.AM.Ytmihmgnjnedfcaa Go.ChangeShapes
set_option linter.unusedVariables false
set_option maxRecDepth 100000
set_option linter.unusedSimpArgs false

theorem own : ownKnob Try.prog.godebug = none := by kernel_rfl

theorem contract2 (a0 a1 : AV) (h : AOpen Try.prog 6 [53, 29] [a0, a1]) : Pure Try.prog 11 [a0, a1] (B true) := by
  obtain ⟨⟨v0, h0, e0⟩, h⟩ := h.cons
  obtain ⟨⟨v1, h1, e1⟩, h⟩ := h.cons
  obtain ⟨R, mv, pv, rfl, g1, g2, g3, g4⟩ := open_regen h0
  obtain ⟨y, l, rfl, k1, k2, _⟩ := OpenT.ints Try.underlying29 Try.underlying3 c3 b3 h1
  rw [argAV_struct Try.underlying53] at e0
  rw [argAV_slice Try.underlying29] at e1
  simp only [List.headD_cons] at e0 e1
  subst e0 e1
  exact s_RegenerateEncodes g1 g2 g3 g4 k1 k2

theorem contract (xs : List AV) (h : AOpen Try.prog 6 Try.f11.params.toList xs) : Pure Try.prog 11 xs (B true) := by
  have h2 : AOpen Try.prog 6 [53, 29] xs := by
    have e : Try.f11.params.toList = [53, 29] := congrArg Array.toList Try.params11
    rw [e] at h; exact h
  clear h
  have hl := h2.len
  simp only [List.length_cons, List.length_nil] at hl
  obtain ⟨a0, a1, rfl⟩ : ∃ a0 a1, xs = [a0, a1] := by
    match xs, hl with
    | [a0, a1], _ => exact ⟨a0, a1, rfl⟩
  exact contract2 a0 a1 h2

theorem lifted (os : Os) (started : os.Started) (H : Type) (enc : TypeId × Value → H) :
    ReturnsInHanded {} Try.checked os 11 .any (Rows.regenerateEncodesSpec.pre6 enc Try.prog Try.f11 Rows.regenerateEncodesRow.domain false) (Rows.regenerateEncodesSpec.post enc Try.prog Try.f11 false true false false) := by
  refine law_lifted (C := Try.checked) (tb := 4) 6 own started (by kernel_rfl) Try.func11
    (ChangeSpec.witness6 (enc := enc) (C := Try.checked) false ⟨#[], #[.agg #[.int .i64 0, .int .i64 0, .slice none 0 0, .int .i64 0, .int .i64 0, .int .i64 0, .slice none 0 0], .slice none 0 0], []⟩ 8 (by kernel_rfl) (by kernel_rfl) (by kernel_rfl) (by kernel_rfl)) rfl rfl Try.underlying4 (by kernel_rfl) (by kernel_rfl) (by kernel_rfl) (fun ds hd => ?_) contract
  match ds, hd with
  | [d1, d2], _ => rfl

theorem over : Rows.regenerateEncodesRow.holds Try.pinned (OpenSpec.ofChange Rows.regenerateEncodesSpec) :=
  OpenClaim.holds_of_wide 11 Try.f11 rfl rfl rfl rfl rfl rfl rfl ⟨rfl, rfl, rfl, rfl, rfl⟩ rfl rfl rfl rfl rfl (by kernel_rfl) Try.func11 (by kernel_rfl)
    (of_decide_eq_true (by kernel_rfl)) (by unfold Func.isWrapper; first | (rw [if_pos (by decide +kernel)]; kernel_rfl) | (rw [if_neg (by decide +kernel)]; exact ⟨rfl, rfl⟩))
    (fun os started H enc _ => lifted os started H enc)
theorem proved : Rows.RegenerateEncodesSaid := over
end Go.Proofs.Ytmihmgnjnedfcaa.regenerateEncodes
namespace Go.Proofs.Ytmihmgnjnedfcaa
/-- The row, under a short name, for the claim. -/
theorem regenerateEncodes_holds : Rows.RegenerateEncodesSaid := regenerateEncodes.proved
#print axioms regenerateEncodes_holds
end Go.Proofs.Ytmihmgnjnedfcaa
end
