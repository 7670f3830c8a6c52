/- For every description of a regenerating code, every number and every list of contents: the law RegenerateHelps answers true, and the arguments read behind it as they read before. No condition. -/
import Derived.Test.YtmihmgnjnedfcaaRows
import Derived.Test.YtmihmgnjnedfcaaOpR
import Derived.Test.YtmihmgnjnedfcaaH2
import Derived.WalkKit
import Derived.ProofKit
import Derived.OpenShut
import Derived.ShutString
import Derived.ChangeOld
import Derived.SizedLaws
namespace Go.Proofs.Ytmihmgnjnedfcaa.regenerateHelps
open Go Go.AM Go.AM.Ytmihmgnjnedfcaa Go.ChangeShapes
set_option linter.unusedVariables false
set_option maxRecDepth 100000
set_option linter.unusedSimpArgs false

theorem own : ownKnob Try.prog.godebug = none := by kernel_rfl

theorem contract3 (a0 a1 a2 : AV) (h : AOpen Try.prog 6 [53, 3, 29] [a0, a1, a2]) : Pure Try.prog 10 [a0, a1, a2] (B true) := by
  obtain ⟨⟨v0, h0, e0⟩, h⟩ := h.cons
  obtain ⟨⟨v1, h1, e1⟩, h⟩ := h.cons
  obtain ⟨⟨v2, h2, e2⟩, h⟩ := h.cons
  obtain ⟨R, mv, pv, rfl, g1, g2, g3, g4⟩ := open_regen h0
  obtain ⟨f, rfl, _⟩ := OpenT.int Try.underlying3 h1
  obtain ⟨y, l, rfl, k1, k2, _⟩ := OpenT.ints Try.underlying29 Try.underlying3 c3 b3 h2
  rw [argAV_struct Try.underlying53] at e0
  rw [argAV_int Try.underlying3] at e1
  rw [argAV_slice Try.underlying29] at e2
  simp only [List.headD_cons] at e1 e2
  subst e0 e1 e2
  exact s_RegenerateHelps g1 g2 g3 g4 f k1 k2

theorem contract (xs : List AV) (h : AOpen Try.prog 6 Try.f10.params.toList xs) : Pure Try.prog 10 xs (B true) := by
  have h2 : AOpen Try.prog 6 [53, 3, 29] xs := by
    have e : Try.f10.params.toList = [53, 3, 29] := congrArg Array.toList Try.params10
    rw [e] at h; exact h
  clear h
  have hl := h2.len
  simp only [List.length_cons, List.length_nil] at hl
  obtain ⟨a0, a1, a2, rfl⟩ : ∃ a0 a1 a2, xs = [a0, a1, a2] := by
    match xs, hl with
    | [a0, a1, a2], _ => exact ⟨a0, a1, a2, rfl⟩
  exact contract3 a0 a1 a2 h2

theorem lifted (os : Os) (started : os.Started) (H : Type) (enc : TypeId × Value → H) :
    ReturnsInHanded {} Try.checked os 10 .any (Rows.regenerateHelpsSpec.pre6 enc Try.prog Try.f10 Rows.regenerateHelpsRow.domain false) (Rows.regenerateHelpsSpec.post enc Try.prog Try.f10 false true false false) := by
  refine law_lifted (C := Try.checked) (tb := 4) 6 own started (by kernel_rfl) Try.func10
    (ChangeSpec.witness6 (enc := enc) (C := Try.checked) false ⟨#[], #[.agg #[.int .i64 0, .int .i64 0, .slice none 0 0, .int .i64 0, .int .i64 0, .int .i64 0, .slice none 0 0], .int .i64 0, .slice none 0 0], []⟩ 8 (by kernel_rfl) (by kernel_rfl) (by kernel_rfl) (by kernel_rfl)) rfl rfl Try.underlying4 (by kernel_rfl) (by kernel_rfl) (by kernel_rfl) (fun ds hd => ?_) contract
  match ds, hd with
  | [d1, d2, d3], _ => rfl

theorem over : Rows.regenerateHelpsRow.holds Try.pinned (OpenSpec.ofChange Rows.regenerateHelpsSpec) :=
  OpenClaim.holds_of_wide 10 Try.f10 rfl rfl rfl rfl rfl rfl rfl ⟨rfl, rfl, rfl, rfl, rfl⟩ rfl rfl rfl rfl rfl (by kernel_rfl) Try.func10 (by kernel_rfl)
    (of_decide_eq_true (by kernel_rfl)) (by unfold Func.isWrapper; first | (rw [if_pos (by decide +kernel)]; kernel_rfl) | (rw [if_neg (by decide +kernel)]; exact ⟨rfl, rfl⟩))
    (fun os started H enc _ => lifted os started H enc)
theorem proved : Rows.RegenerateHelpsSaid := over
end Go.Proofs.Ytmihmgnjnedfcaa.regenerateHelps
namespace Go.Proofs.Ytmihmgnjnedfcaa
/-- The row, under a short name, for the claim. -/
theorem regenerateHelps_holds : Rows.RegenerateHelpsSaid := regenerateHelps.proved
#print axioms regenerateHelps_holds
end Go.Proofs.Ytmihmgnjnedfcaa
