import Derived.Test.YtmihmgnjnedfcaaRows
import Derived.Test.YtmihmgnjnedfcaaBD
import Derived.Test.YtmihmgnjnedfcaaBI
import Derived.WalkKit
import Derived.ProofKit
import Derived.OpenShut
import Derived.ShutString
import Derived.ChangeOld
import Derived.SizedLaws

section
/- For every description of a regenerating code, every two lists of ints and every number. The law RegenerateLinear answers true, and the arguments read behind it as they read before. No condition. -/
namespace Go.Proofs.Ytmihmgnjnedfcaa.regenerateLinear
open Go Go.AM Go.AM.Ytmihmgnjnedfcaa Go.ChangeShapes
set_option linter.unusedVariables false
set_option maxRecDepth 100000
set_option linter.unusedSimpArgs false

theorem own : ownKnob Try.prog.godebug = none := by kernel_rfl

theorem contract2 (a0 a1 a2 a3 : AV) (h : AOpen Try.prog 6 [53, 29, 29, 3] [a0, a1, a2, a3]) : Pure Try.prog 13 [a0, a1, a2, a3] (B true) := by
  obtain ⟨⟨v0, h0, e0⟩, h⟩ := h.cons
  obtain ⟨⟨v1, h1, e1⟩, h⟩ := h.cons
  obtain ⟨⟨v2, h2, e2⟩, h⟩ := h.cons
  obtain ⟨⟨v3, h3, e3⟩, h⟩ := h.cons
  obtain ⟨R0, mv0, pv0, rfl, f0, g0, s0, t0⟩ := open_regen h0
  rw [argAV_struct Try.underlying53] at e0
  obtain ⟨y1, l1, rfl, f1, g1, _⟩ := OpenT.ints Try.underlying29 Try.underlying3 c3 b3 h1
  rw [argAV_slice Try.underlying29] at e1
  obtain ⟨y2, l2, rfl, f2, g2, _⟩ := OpenT.ints Try.underlying29 Try.underlying3 c3 b3 h2
  rw [argAV_slice Try.underlying29] at e2
  obtain ⟨z3, rfl, f3⟩ := OpenT.int Try.underlying3 h3
  rw [argAV_int Try.underlying3] at e3
  simp only [List.headD_cons] at e1 e2 e3
  subst e0 e1 e2 e3
  exact s_RegenerateLinear f0 g0 s0 t0 f1 g1 f2 g2 z3

theorem contract (xs : List AV) (h : AOpen Try.prog 6 Try.f13.params.toList xs) : Pure Try.prog 13 xs (B true) := by
  have h2 : AOpen Try.prog 6 [53, 29, 29, 3] xs := by
    have e : Try.f13.params.toList = [53, 29, 29, 3] := congrArg Array.toList Try.params13
    rw [e] at h; exact h
  clear h
  have hl := h2.len
  simp only [List.length_cons, List.length_nil] at hl
  obtain ⟨a0, a1, a2, a3, rfl⟩ : ∃ a0 a1 a2 a3, xs = [a0, a1, a2, a3] := by
    match xs, hl with
    | [a0, a1, a2, a3], _ => exact ⟨a0, a1, a2, a3, rfl⟩
  exact contract2 a0 a1 a2 a3 h2

theorem lifted (os : Os) (started : os.Started) (H : Type) (enc : TypeId × Value → H) :
    ReturnsInHanded {} Try.checked os 13 .any (Rows.regenerateLinearSpec.pre6 enc Try.prog Try.f13 Rows.regenerateLinearRow.domain false) (Rows.regenerateLinearSpec.post enc Try.prog Try.f13 false true false false) := by
  refine law_lifted (C := Try.checked) (tb := 4) 6 own started (by kernel_rfl) Try.func13
    (ChangeSpec.witness6 (enc := enc) (C := Try.checked) false ⟨#[], #[.agg #[.int .i64 0, .int .i64 0, .slice none 0 0, .int .i64 0, .int .i64 0, .int .i64 0, .slice none 0 0], .slice none 0 0, .slice none 0 0, .int .i64 0], []⟩ 8 (by kernel_rfl) (by kernel_rfl) (by kernel_rfl) (by kernel_rfl)) rfl rfl Try.underlying4 (by kernel_rfl) (by kernel_rfl) (by kernel_rfl) (fun ds hd => ?_) contract
  match ds, hd with
  | [d1, d2, d3, d4], _ => rfl

theorem over : Rows.regenerateLinearRow.holds Try.pinned (OpenSpec.ofChange Rows.regenerateLinearSpec) :=
  OpenClaim.holds_of_wide 13 Try.f13 rfl rfl rfl rfl rfl rfl rfl ⟨rfl, rfl, rfl, rfl, rfl⟩ rfl rfl rfl rfl rfl (by kernel_rfl) Try.func13 (by kernel_rfl)
    (of_decide_eq_true (by kernel_rfl)) (by unfold Func.isWrapper; first | (rw [if_pos (by decide +kernel)]; kernel_rfl) | (rw [if_neg (by decide +kernel)]; exact ⟨rfl, rfl⟩))
    (fun os started H enc _ => lifted os started H enc)
theorem proved : Rows.RegenerateLinearSaid := over
end Go.Proofs.Ytmihmgnjnedfcaa.regenerateLinear
namespace Go.Proofs.Ytmihmgnjnedfcaa
/-- The row, under a short name, for the claim. -/
theorem regenerateLinear_holds : Rows.RegenerateLinearSaid := regenerateLinear.proved
#print axioms regenerateLinear_holds
end Go.Proofs.Ytmihmgnjnedfcaa
end
