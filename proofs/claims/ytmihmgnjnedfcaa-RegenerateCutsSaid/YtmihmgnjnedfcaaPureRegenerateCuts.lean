/- For all integers k, d, alpha, beta: the program's Cut gives the sum of the reference, or 0 and ErrRange where the reference refuses the arguments. No condition. -/
import Derived.Test.YtmihmgnjnedfcaaPRegenerateCutsx1
namespace Go.Proofs.Ytmihmgnjnedfcaa.Pure
open Go.RowKit Go.Proofs.Ytmihmgnjnedfcaa.PRegenerateCuts Go.Proofs.YtmihmgnjnedfcaaW.PrintWords Go.Proofs.YtmihmgnjnedfcaaW.PrintLast

/-- From round i on, both loops come to one sum. -/
theorem cutLoops (x0 x1 x2 x3 : Int) (hx : x0 ≤ 64) (d : Nat) : ∀ (k : Nat) (s i : Int), 0 ≤ i → i ≤ x0 → x0 - i = d → d < k →
    ∃ r, regenerate_Cut.l0 k x1 x2 x3 s x0 i = some (r, 0) ∧ codewrightref52_Cut.l0 k x0 x1 x2 x3 s i = some r := by
  induction d with
  | zero =>
    intro k s i h0 h1 hd hk
    obtain ⟨k, rfl⟩ : ∃ m, k = m + 1 := ⟨k - 1, by omega⟩
    refine ⟨s, ?_, ?_⟩
    · simp only [regenerate_Cut.l0]; rw [if_neg (by omega)]
    · simp only [codewrightref52_Cut.l0]; rw [if_neg (by omega)]
  | succ d ih =>
    intro k s i h0 h1 hd hk
    obtain ⟨k, rfl⟩ : ∃ m, k = m + 1 := ⟨k - 1, by omega⟩
    have hw : wrap64 (i + 1) = i + 1 := by unfold wrap64; omega
    obtain ⟨r, ha, hb⟩ := ih k (wrap64 (s + (mn x2 (wrap64 ((wrap64 (x1 - i)) * x3))))) (i + 1) (by omega) (by omega) (by omega) (by omega)
    refine ⟨r, ?_, ?_⟩
    · simp only [regenerate_Cut.l0]; rw [if_pos (by omega), hw]; exact ha
    · simp only [codewrightref52_Cut.l0]; rw [if_pos (by omega), hw]; exact hb

theorem RegenerateCuts : codewrightlaw52_RegenerateCuts.Pure := by
  intro k d a b _ _ _ _
  by_cases h1 : k < 1
  · exact ⟨1, by simp [codewrightlaw52_RegenerateCuts.f, regenerate_Cut.f, codewrightref52_CutArgs.f, regenerate_Cut.j0, h1]⟩
  by_cases h2 : k > d
  · exact ⟨1, by simp [codewrightlaw52_RegenerateCuts.f, regenerate_Cut.f, codewrightref52_CutArgs.f, regenerate_Cut.j0, h1, h2]⟩
  by_cases h3 : d > 64
  · exact ⟨1, by simp [codewrightlaw52_RegenerateCuts.f, regenerate_Cut.f, codewrightref52_CutArgs.f, regenerate_Cut.j0, h1, h2, h3]⟩
  by_cases h4 : a < 0
  · exact ⟨1, by simp [codewrightlaw52_RegenerateCuts.f, regenerate_Cut.f, codewrightref52_CutArgs.f, regenerate_Cut.j0, h1, h2, h3, h4]⟩
  by_cases h5 : a > 1048576
  · exact ⟨1, by simp [codewrightlaw52_RegenerateCuts.f, regenerate_Cut.f, codewrightref52_CutArgs.f, regenerate_Cut.j0, h1, h2, h3, h4, h5]⟩
  by_cases h6 : b < 0
  · exact ⟨1, by simp [codewrightlaw52_RegenerateCuts.f, regenerate_Cut.f, codewrightref52_CutArgs.f, regenerate_Cut.j0, h1, h2, h3, h4, h5, h6]⟩
  by_cases h7 : b > 1048576
  · exact ⟨1, by simp [codewrightlaw52_RegenerateCuts.f, regenerate_Cut.f, codewrightref52_CutArgs.f, regenerate_Cut.j0, h1, h2, h3, h4, h5, h6, h7]⟩
  obtain ⟨r, ha, _⟩ := cutLoops k d a b (by omega) k.toNat 100 0 0 (by omega) (by omega) (by omega) (by omega)
  have hm := codewrightref52_Cut.mono_l 100 k d a b 0 0 r (by
    obtain ⟨r2, h8, h9⟩ := cutLoops k d a b (by omega) k.toNat 100 0 0 (by omega) (by omega) (by omega) (by omega)
    rw [ha] at h8
    have e : r = r2 := by simpa using h8
    rw [e]; exact h9)
  refine ⟨101, ?_⟩
  unfold codewrightlaw52_RegenerateCuts.f regenerate_Cut.f codewrightref52_CutArgs.f codewrightref52_Cut.f
  rw [if_neg h1, if_neg h2, if_neg h3, if_neg h4, if_neg h5, if_neg h6, decide_eq_false h7]
  simp only [regenerate_Cut.j0, Bool.false_eq_true, if_false]
  rw [ha, if_neg h1, if_neg h2, if_neg h3, if_neg h4, if_neg h5, if_neg h6, if_neg h7, hm]
  simp

end Go.Proofs.Ytmihmgnjnedfcaa.Pure
