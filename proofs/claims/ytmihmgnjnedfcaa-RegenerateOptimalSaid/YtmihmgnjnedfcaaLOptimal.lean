/- For every description of a regenerating code and all t and s: the law RegenerateOptimal answers true, and the arguments read behind it as they read before. No condition. -/
import Derived.Test.YtmihmgnjnedfcaaRows
import Derived.Test.YtmihmgnjnedfcaaOpR
import Derived.Test.YtmihmgnjnedfcaaR4
import Derived.WalkKit
import Derived.ProofKit
import Derived.OpenShut
import Derived.ShutString
import Derived.ChangeOld
import Derived.SizedLaws
namespace Go.Proofs.Ytmihmgnjnedfcaa.regenerateOptimal
open Go Go.AM Go.AM.Ytmihmgnjnedfcaa Go.ChangeShapes
set_option linter.unusedVariables false
set_option maxRecDepth 100000
set_option linter.unusedSimpArgs false

theorem own : ownKnob Try.prog.godebug = none := by kernel_rfl

theorem in8 {z : Int} (h : (Lit.int .u8 z).wf = true) : 0 ≤ z ∧ z ≤ 255 := by
  simp only [Lit.wf, IntKind.min, IntKind.max, IntKind.signed, IntKind.bits, Bool.and_eq_true, decide_eq_true_eq] at h
  simp at h
  omega

theorem contract3 (a0 a1 a2 : AV) (h : AOpen Try.prog 6 [53, 5, 5] [a0, a1, a2]) : Pure Try.prog 8 [a0, a1, a2] (B true) := by
  obtain ⟨⟨v0, h0, e0⟩, h⟩ := h.cons
  obtain ⟨⟨v1, h1, e1⟩, h⟩ := h.cons
  obtain ⟨⟨v2, h2, e2⟩, h⟩ := h.cons
  obtain ⟨R, mv, pv, rfl, g1, g2, g3, g4⟩ := open_regen h0
  obtain ⟨t, rfl, ht⟩ := OpenT.int Try.underlying5 h1
  obtain ⟨s, rfl, hs⟩ := OpenT.int Try.underlying5 h2
  rw [argAV_struct Try.underlying53] at e0
  rw [argAV_int Try.underlying5] at e1 e2
  simp only [List.headD_cons] at e1 e2
  subst e0 e1 e2
  exact s_RegenerateOptimal g1 g2 g3 g4 (in8 ht) (in8 hs)

theorem contract (xs : List AV) (h : AOpen Try.prog 6 Try.f8.params.toList xs) : Pure Try.prog 8 xs (B true) := by
  have h2 : AOpen Try.prog 6 [53, 5, 5] xs := by
    have e : Try.f8.params.toList = [53, 5, 5] := congrArg Array.toList Try.params8
    rw [e] at h; exact h
  clear h
  have hl := h2.len
  simp only [List.length_cons, List.length_nil] at hl
  obtain ⟨a0, a1, a2, rfl⟩ : ∃ a0 a1 a2, xs = [a0, a1, a2] := by
    match xs, hl with
    | [a0, a1, a2], _ => exact ⟨a0, a1, a2, rfl⟩
  exact contract3 a0 a1 a2 h2

theorem lifted (os : Os) (started : os.Started) (H : Type) (enc : TypeId × Value → H) :
    ReturnsInHanded {} Try.checked os 8 .any (Rows.regenerateOptimalSpec.pre6 enc Try.prog Try.f8 Rows.regenerateOptimalRow.domain false) (Rows.regenerateOptimalSpec.post enc Try.prog Try.f8 false true false false) := by
  refine law_lifted (C := Try.checked) (tb := 4) 6 own started (by kernel_rfl) Try.func8
    (ChangeSpec.witness6 (enc := enc) (C := Try.checked) false ⟨#[], #[.agg #[.int .i64 0, .int .i64 0, .slice none 0 0, .int .i64 0, .int .i64 0, .int .i64 0, .slice none 0 0], .int .u8 0, .int .u8 0], []⟩ 8 (by kernel_rfl) (by kernel_rfl) (by kernel_rfl) (by kernel_rfl)) rfl rfl Try.underlying4 (by kernel_rfl) (by kernel_rfl) (by kernel_rfl) (fun ds hd => ?_) contract
  match ds, hd with
  | [d1, d2, d3], _ => rfl

theorem over : Rows.regenerateOptimalRow.holds Try.pinned (OpenSpec.ofChange Rows.regenerateOptimalSpec) :=
  OpenClaim.holds_of_wide 8 Try.f8 rfl rfl rfl rfl rfl rfl rfl ⟨rfl, rfl, rfl, rfl, rfl⟩ rfl rfl rfl rfl rfl (by kernel_rfl) Try.func8 (by kernel_rfl)
    (of_decide_eq_true (by kernel_rfl)) (by unfold Func.isWrapper; first | (rw [if_pos (by decide +kernel)]; kernel_rfl) | (rw [if_neg (by decide +kernel)]; exact ⟨rfl, rfl⟩))
    (fun os started H enc _ => lifted os started H enc)
theorem proved : Rows.RegenerateOptimalSaid := over
end Go.Proofs.Ytmihmgnjnedfcaa.regenerateOptimal
namespace Go.Proofs.Ytmihmgnjnedfcaa
/-- The row, under a short name, for the claim. -/
theorem regenerateOptimal_holds : Rows.RegenerateOptimalSaid := regenerateOptimal.proved
#print axioms regenerateOptimal_holds
end Go.Proofs.Ytmihmgnjnedfcaa
