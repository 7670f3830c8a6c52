/- For every n, alpha, beta, history and collector: the law RegenerateGraphs answers true, and the arguments read behind it as they read before. No condition. -/
import Derived.Test.YtmihmgnjnedfcaaRows
import Derived.Test.YtmihmgnjnedfcaaAMR
import Derived.Test.YtmihmgnjnedfcaaS7
import Derived.WalkKit
import Derived.ProofKit
import Derived.OpenShut
import Derived.ShutString
import Derived.ChangeOld
import Derived.SizedLaws
namespace Go.Proofs.Ytmihmgnjnedfcaa.regenerateGraphs
open Go Go.AM Go.AM.Ytmihmgnjnedfcaa Go.ChangeShapes
set_option linter.unusedVariables false
set_option maxRecDepth 100000
set_option linter.unusedSimpArgs false

theorem own : ownKnob Try.prog.godebug = none := by kernel_rfl
theorem c3 : Try.prog.cellsOf 3 = 1 := by kernel_rfl
theorem b3 : 0 < Try.prog.bytesOf 3 := of_decide_eq_true (by kernel_rfl)
theorem b40 : 0 < Try.prog.bytesOf 40 := of_decide_eq_true (by kernel_rfl)
theorem c40 : Try.prog.cellsOf 40 = 2 := by kernel_rfl

/-- A history, opened. -/
theorem open_hist {n : Nat} {avs : List AV} (h : OpenT Try.prog (n + 4) 28 avs) : ∃ (x : AV) (H : Hist) (cells : List AV), avs = [x] ∧ SV 2 x H.length cells ∧ HLc cells H ∧ H.length < 4611686018427387904 ∧
    ∀ i, i < H.length → (H.getD i default).2.length < 4611686018427387904 := by
  obtain ⟨x, m, cells, rfl, hsv, hm, hx⟩ := OpenT.slice Try.underlying28 h
  rw [c40] at hsv hx
  have hcl := hsv.1
  have each : ∀ i, i < m → ∃ p : Int × List Int, cells.getD (i * 2) .nils = I p.1 ∧ IL (cells.getD (i * 2 + 1) .nils) p.2 ∧ p.2.length < 4611686018427387904 := by
    intro i hi
    obtain ⟨l0, l1, h1, h2, h3⟩ := OpenT.struct2 Try.underlying40 (hx i hi)
    obtain ⟨z, rfl, _⟩ := OpenT.int Try.underlying3 h2
    obtain ⟨y, l, rfl, hl, hb, _⟩ := OpenT.ints Try.underlying29 Try.underlying3 c3 b3 h3
    rw [take2 (by omega)] at h1
    simp only [List.cons_append, List.nil_append, List.cons.injEq, and_true] at h1
    refine ⟨(z, l), h1.1, ?_, hb⟩
    rw [h1.2]; exact hl
  obtain ⟨p, hp⟩ := Deep.choose_lt each
  refine ⟨x, (List.range m).map p, cells, rfl, by simpa using hsv, ?_, ?_, ?_⟩
  · intro i hi
    have hi' : i < m := by simpa using hi
    simp only [List.getD, List.getElem?_map, List.getElem?_range hi', Option.map_some, Option.getD_some]
    exact ⟨(hp i hi').1, (hp i hi').2.1⟩
  · simpa using small_of b40 hm
  · intro i hi
    have hi' : i < m := by simpa using hi
    simp only [List.getD, List.getElem?_map, List.getElem?_range hi', Option.map_some, Option.getD_some]
    exact (hp i hi').2.2

theorem contract5 (a0 a1 a2 a3 a4 : AV) (h : AOpen Try.prog 6 [3, 3, 3, 28, 29] [a0, a1, a2, a3, a4]) : Pure Try.prog 4 [a0, a1, a2, a3, a4] (B true) := by
  obtain ⟨⟨v0, h0, e0⟩, h⟩ := h.cons
  obtain ⟨⟨v1, h1, e1⟩, h⟩ := h.cons
  obtain ⟨⟨v2, h2, e2⟩, h⟩ := h.cons
  obtain ⟨⟨v3, h3, e3⟩, h⟩ := h.cons
  obtain ⟨⟨v4, h4, e4⟩, h⟩ := h.cons
  obtain ⟨n, rfl, _⟩ := OpenT.int Try.underlying3 h0
  obtain ⟨a, rfl, _⟩ := OpenT.int Try.underlying3 h1
  obtain ⟨b, rfl, _⟩ := OpenT.int Try.underlying3 h2
  obtain ⟨x, H, cells, rfl, g1, g2, g3, g4⟩ := open_hist h3
  obtain ⟨y, l, rfl, k1, k2, _⟩ := OpenT.ints Try.underlying29 Try.underlying3 c3 b3 h4
  rw [argAV_int Try.underlying3] at e0 e1 e2
  rw [argAV_slice Try.underlying28] at e3
  rw [argAV_slice Try.underlying29] at e4
  simp only [List.headD_cons] at e0 e1 e2 e3 e4
  subst e0 e1 e2 e3 e4
  exact s_RegenerateGraphs g1 g2 k1 g3 k2 g4 n a b

theorem contract (xs : List AV) (h : AOpen Try.prog 6 Try.f4.params.toList xs) : Pure Try.prog 4 xs (B true) := by
  have h2 : AOpen Try.prog 6 [3, 3, 3, 28, 29] xs := by
    have e : Try.f4.params.toList = [3, 3, 3, 28, 29] := congrArg Array.toList Try.params4
    rw [e] at h; exact h
  clear h
  have hl := h2.len
  simp only [List.length_cons, List.length_nil] at hl
  obtain ⟨a0, a1, a2, a3, a4, rfl⟩ : ∃ a0 a1 a2 a3 a4, xs = [a0, a1, a2, a3, a4] := by
    match xs, hl with
    | [a0, a1, a2, a3, a4], _ => exact ⟨a0, a1, a2, a3, a4, rfl⟩
  exact contract5 a0 a1 a2 a3 a4 h2

theorem lifted (os : Os) (started : os.Started) (H : Type) (enc : TypeId × Value → H) :
    ReturnsInHanded {} Try.checked os 4 .any (Rows.regenerateGraphsSpec.pre6 enc Try.prog Try.f4 Rows.regenerateGraphsRow.domain false) (Rows.regenerateGraphsSpec.post enc Try.prog Try.f4 false true false false) := by
  refine law_lifted (C := Try.checked) (tb := 4) 6 own started (by kernel_rfl) Try.func4
    (ChangeSpec.witness6 (enc := enc) (C := Try.checked) false ⟨#[], #[.int .i64 0, .int .i64 0, .int .i64 0, .slice none 0 0, .slice none 0 0], []⟩ 8 (by kernel_rfl) (by kernel_rfl) (by kernel_rfl) (by kernel_rfl)) rfl rfl Try.underlying4 (by kernel_rfl) (by kernel_rfl) (by kernel_rfl) (fun ds hd => ?_) contract
  match ds, hd with
  | [d1, d2, d3, d4, d5], _ => rfl

theorem over : Rows.regenerateGraphsRow.holds Try.pinned (OpenSpec.ofChange Rows.regenerateGraphsSpec) :=
  OpenClaim.holds_of_wide 4 Try.f4 rfl rfl rfl rfl rfl rfl rfl ⟨rfl, rfl, rfl, rfl, rfl⟩ rfl rfl rfl rfl rfl (by kernel_rfl) Try.func4 (by kernel_rfl)
    (of_decide_eq_true (by kernel_rfl)) (by unfold Func.isWrapper; first | (rw [if_pos (by decide +kernel)]; kernel_rfl) | (rw [if_neg (by decide +kernel)]; exact ⟨rfl, rfl⟩))
    (fun os started H enc _ => lifted os started H enc)
theorem proved : Rows.RegenerateGraphsSaid := over
end Go.Proofs.Ytmihmgnjnedfcaa.regenerateGraphs
namespace Go.Proofs.Ytmihmgnjnedfcaa
/-- The row, under a short name, for the claim. -/
theorem regenerateGraphs_holds : Rows.RegenerateGraphsSaid := regenerateGraphs.proved
#print axioms regenerateGraphs_holds
end Go.Proofs.Ytmihmgnjnedfcaa
