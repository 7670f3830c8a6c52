/- For every description of a regenerating code: the law RegenerateChecks answers true, and the argument reads behind it as it read before. No condition. -/
import Derived.Test.YtmihmgnjnedfcaaRows
import Derived.Test.YtmihmgnjnedfcaaOpR
import Derived.WalkKit
import Derived.ProofKit
import Derived.OpenShut
import Derived.ShutString
import Derived.ChangeOld
import Derived.SizedLaws
namespace Go.Proofs.Ytmihmgnjnedfcaa.regenerateChecks
open Go Go.AM Go.AM.Ytmihmgnjnedfcaa Go.ChangeShapes
set_option linter.unusedVariables false
set_option maxRecDepth 100000
set_option linter.unusedSimpArgs false

theorem own : ownKnob Try.prog.godebug = none := by kernel_rfl

theorem contract1 (a0 : AV) (h : AOpen Try.prog 6 [53] [a0]) : Pure Try.prog 7 [a0] (B true) := by
  obtain ⟨⟨v0, h0, e0⟩, h⟩ := h.cons
  obtain ⟨R, mv, pv, rfl, g1, g2, g3, g4⟩ := open_regen h0
  rw [argAV_struct Try.underlying53] at e0
  subst e0
  exact s_RegenerateChecks g1 g2 g3 g4

theorem contract (xs : List AV) (h : AOpen Try.prog 6 Try.f7.params.toList xs) : Pure Try.prog 7 xs (B true) := by
  have h2 : AOpen Try.prog 6 [53] xs := by
    have e : Try.f7.params.toList = [53] := congrArg Array.toList Try.params7
    rw [e] at h; exact h
  clear h
  have hl := h2.len
  simp only [List.length_cons, List.length_nil] at hl
  obtain ⟨a0, rfl⟩ : ∃ a0, xs = [a0] := by
    match xs, hl with
    | [a0], _ => exact ⟨a0, rfl⟩
  exact contract1 a0 h2

theorem lifted (os : Os) (started : os.Started) (H : Type) (enc : TypeId × Value → H) :
    ReturnsInHanded {} Try.checked os 7 .any (Rows.regenerateChecksSpec.pre6 enc Try.prog Try.f7 Rows.regenerateChecksRow.domain false) (Rows.regenerateChecksSpec.post enc Try.prog Try.f7 false true false false) := by
  refine law_lifted (C := Try.checked) (tb := 4) 6 own started (by kernel_rfl) Try.func7
    (ChangeSpec.witness6 (enc := enc) (C := Try.checked) false ⟨#[], #[.agg #[.int .i64 0, .int .i64 0, .slice none 0 0, .int .i64 0, .int .i64 0, .int .i64 0, .slice none 0 0]], []⟩ 8 (by kernel_rfl) (by kernel_rfl) (by kernel_rfl) (by kernel_rfl)) rfl rfl Try.underlying4 (by kernel_rfl) (by kernel_rfl) (by kernel_rfl) (fun ds hd => ?_) contract
  match ds, hd with
  | [d1], _ => rfl

theorem over : Rows.regenerateChecksRow.holds Try.pinned (OpenSpec.ofChange Rows.regenerateChecksSpec) :=
  OpenClaim.holds_of_wide 7 Try.f7 rfl rfl rfl rfl rfl rfl rfl ⟨rfl, rfl, rfl, rfl, rfl⟩ rfl rfl rfl rfl rfl (by kernel_rfl) Try.func7 (by kernel_rfl)
    (of_decide_eq_true (by kernel_rfl)) (by unfold Func.isWrapper; first | (rw [if_pos (by decide +kernel)]; kernel_rfl) | (rw [if_neg (by decide +kernel)]; exact ⟨rfl, rfl⟩))
    (fun os started H enc _ => lifted os started H enc)
theorem proved : Rows.RegenerateChecksSaid := over
end Go.Proofs.Ytmihmgnjnedfcaa.regenerateChecks
namespace Go.Proofs.Ytmihmgnjnedfcaa
/-- The row, under a short name, for the claim. -/
theorem regenerateChecks_holds : Rows.RegenerateChecksSaid := regenerateChecks.proved
#print axioms regenerateChecks_holds
end Go.Proofs.Ytmihmgnjnedfcaa
