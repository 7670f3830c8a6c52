-- PRINTED BY print.sh 35421559b90ae4d0a3588c463048766b98c2df88dd9212a6774a882060cdf62d: not written by this session
import Derived.Test.YtmihmgnjnedfcaaPRegenerateCutsx0
namespace Go.Proofs.Ytmihmgnjnedfcaa.PRegenerateCuts
open Go.RowKit Go.Proofs.YtmihmgnjnedfcaaW.PrintWords Go.Proofs.YtmihmgnjnedfcaaW.PrintLast Go.Proofs.YtmihmgnjnedfcaaW.PrintMore
attribute [local go_sem] max2_int min2_int max_two min_two max_three min_three max_four min_four   -- for this text's walks alone
set_option linter.unusedVariables false
set_option linter.unusedSimpArgs false

/-! ### regenerate_Cut: function 15 -/
mutual
def regenerate_Cut.j0 : Nat → Int → Int → Int → Int → Bool → Option (Int × Int)
  | 0, _, _, _, _, _ => none
  | k + 1, x0, x1, x2, x3, x38 => if x38 = true then (some (0, 6)) else (regenerate_Cut.l0 k x1 x2 x3 0 x0 0)
def regenerate_Cut.l0 : Nat → Int → Int → Int → Int → Int → Int → Option (Int × Int)
  | 0, _, _, _, _, _, _ => none
  | k + 1, x1, x2, x3, x10, x39, x40 => if x40 < x39 then (regenerate_Cut.l0 k x1 x2 x3 (wrap64 (x10 + (mn x2 (wrap64 ((wrap64 (x1 - x40)) * x3))))) x39 (wrap64 (x40 + 1))) else (some (x10, 0))
end
def regenerate_Cut.f (k : Nat) (a0 : Int) (a1 : Int) (a2 : Int) (a3 : Int) : Option (Int × Int) := if a0 < 1 then (regenerate_Cut.j0 k a0 a1 a2 a3 true) else (if a0 > a1 then (regenerate_Cut.j0 k a0 a1 a2 a3 true) else (if a1 > 64 then (regenerate_Cut.j0 k a0 a1 a2 a3 true) else (if a2 < 0 then (regenerate_Cut.j0 k a0 a1 a2 a3 true) else (if a2 > 1048576 then (regenerate_Cut.j0 k a0 a1 a2 a3 true) else (if a3 < 0 then (regenerate_Cut.j0 k a0 a1 a2 a3 true) else (regenerate_Cut.j0 k a0 a1 a2 a3 (decide (a3 > 1048576))))))))
theorem regenerate_Cut.mono_l : ∀ k, (∀ y0 y1 y2 y3 y4, LeO (regenerate_Cut.j0 k y0 y1 y2 y3 y4) (regenerate_Cut.j0 (k + 1) y0 y1 y2 y3 y4)) ∧ (∀ y0 y1 y2 y3 y4 y5, LeO (regenerate_Cut.l0 k y0 y1 y2 y3 y4 y5) (regenerate_Cut.l0 (k + 1) y0 y1 y2 y3 y4 y5))
  | 0 => ⟨fun _ _ _ _ _ r h => by simp [regenerate_Cut.j0] at h, fun _ _ _ _ _ _ r h => by simp [regenerate_Cut.l0] at h⟩
  | k + 1 => by
    obtain ⟨ih0, ih1⟩ := regenerate_Cut.mono_l k
    refine ⟨?_, ?_⟩
    · intro y0 y1 y2 y3 y4
      unfold regenerate_Cut.j0
      repeat' first
      | (with_reducible exact ih0 _ _ _ _ _)
      | (with_reducible exact ih1 _ _ _ _ _ _)
      | (with_reducible exact LeO.refl _)
      | (with_reducible exact LeO.none _)
      | (with_reducible refine LeO.ite ?_ ?_)
      | (with_reducible refine LeO.bind ?_ (fun _ => ?_))
      | exact ih0 _ _ _ _ _
      | exact ih1 _ _ _ _ _ _
      | exact LeO.none _
      | refine LeO.ite ?_ ?_
      | refine LeO.bind ?_ (fun _ => ?_)
    · intro y0 y1 y2 y3 y4 y5
      unfold regenerate_Cut.l0
      repeat' first
      | (with_reducible exact ih0 _ _ _ _ _)
      | (with_reducible exact ih1 _ _ _ _ _ _)
      | (with_reducible exact LeO.refl _)
      | (with_reducible exact LeO.none _)
      | (with_reducible refine LeO.ite ?_ ?_)
      | (with_reducible refine LeO.bind ?_ (fun _ => ?_))
      | exact ih0 _ _ _ _ _
      | exact ih1 _ _ _ _ _ _
      | exact LeO.none _
      | refine LeO.ite ?_ ?_
      | refine LeO.bind ?_ (fun _ => ?_)
theorem regenerate_Cut.mono : ∀ a0 a1 a2 a3 k, LeO (regenerate_Cut.f k a0 a1 a2 a3) (regenerate_Cut.f (k + 1) a0 a1 a2 a3) := by
  intro a0 a1 a2 a3 k
  obtain ⟨ih0, ih1⟩ := regenerate_Cut.mono_l k
  unfold regenerate_Cut.f
  repeat' first
      | (with_reducible exact ih0 _ _ _ _ _)
      | (with_reducible exact ih1 _ _ _ _ _ _)
      | (with_reducible exact LeO.refl _)
      | (with_reducible exact LeO.none _)
      | (with_reducible refine LeO.ite ?_ ?_)
      | (with_reducible refine LeO.bind ?_ (fun _ => ?_))
      | exact ih0 _ _ _ _ _
      | exact ih1 _ _ _ _ _ _
      | exact LeO.none _
      | refine LeO.ite ?_ ?_
      | refine LeO.bind ?_ (fun _ => ?_)
set_option maxHeartbeats 8000000 in
set_option maxRecDepth 100000 in
theorem regenerate_Cut.calls (k : Nat) (a0 : Int) (a1 : Int) (a2 : Int) (a3 : Int) (r1 : Int) (r2 : Int) (w : World) (h : regenerate_Cut.f k a0 a1 a2 a3 = some (r1, r2)) :
    Calls Try.prog 15 #[.int .i64 a0, .int .i64 a1, .int .i64 a2, .int .i64 a3] w fun e w' => e = .returned (.tuple #[.int .i64 r1, .int .i64 r2]) ∧ Below w.heap.size w w' := by
  have HB := Aside0.mk (Below.refl w.heap.size w)
  have H : (if a0 < 1 then (regenerate_Cut.j0 k a0 a1 a2 a3 true) else (if a0 > a1 then (regenerate_Cut.j0 k a0 a1 a2 a3 true) else (if a1 > 64 then (regenerate_Cut.j0 k a0 a1 a2 a3 true) else (if a2 < 0 then (regenerate_Cut.j0 k a0 a1 a2 a3 true) else (if a2 > 1048576 then (regenerate_Cut.j0 k a0 a1 a2 a3 true) else (if a3 < 0 then (regenerate_Cut.j0 k a0 a1 a2 a3 true) else (regenerate_Cut.j0 k a0 a1 a2 a3 (decide (a3 > 1048576))))))))) = some (r1, r2) := h
  clear h
  have HC5 := Aside0.mk H
  clear H
  go_enter Try.func15, Try.ntmps15
  go_upto_region 1 with (fail)
  go_cut [38] (fun v38 wc => ∃ (kq : Nat) (x38_4 : Bool), v38 = .bool x38_4 ∧ Aside0 (regenerate_Cut.j0 kq a0 a1 a2 a3 x38_4 = some (r1, r2)) ∧ Aside0 (kq ≤ k) ∧ Aside0 (Below w.heap.size w wc))
  case first =>
    have H := HC5.out
    clear HC5
    by_cases c6 : a0 < 1
    · rw [if_pos c6] at H
      have c6b0 : decide (a0 < 1) = true := decide_eq_true c6
      clear c6
      (first | rw [c6b0] | (simp only [i64_w, i32_w]; rw [c6b0]) | skip)
      have H' := Aside0.mk H
      clear H
      go_wp2
      go_meet
      case rel => exact ⟨_, (true), (by first | rfl | (simp; done) | (simp [*]; done)), H', ⟨by first | omega | exact Nat.le_refl _⟩, ⟨by repeat (first | (with_reducible first | exact HB.out | apply below_alloc | apply pw_below_drewN | apply below_drew1) | exact HB.out)⟩⟩
    · rw [if_neg c6] at H
      have c6b0 : decide (a0 < 1) = false := decide_eq_false c6
      clear c6
      (first | rw [c6b0] | (simp only [i64_w, i32_w]; rw [c6b0]) | skip)
      by_cases c7 : a0 > a1
      · rw [if_pos c7] at H
        have c7b0 : decide (a1 < a0) = true := decide_eq_true c7
        clear c7
        have H' := Aside0.mk H
        clear H
        go_wp2
        go_meet
        case rel => exact ⟨_, (true), (by first | rfl | (simp; done) | (simp [*]; done)), H', ⟨by first | omega | exact Nat.le_refl _⟩, ⟨by repeat (first | (with_reducible first | exact HB.out | apply below_alloc | apply pw_below_drewN | apply below_drew1) | exact HB.out)⟩⟩
      · rw [if_neg c7] at H
        have c7b0 : decide (a1 < a0) = false := decide_eq_false c7
        clear c7
        by_cases c8 : a1 > 64
        · rw [if_pos c8] at H
          have c8b0 : decide (64 < a1) = true := decide_eq_true c8
          clear c8
          have H' := Aside0.mk H
          clear H
          go_wp2
          go_meet
          case rel => exact ⟨_, (true), (by first | rfl | (simp; done) | (simp [*]; done)), H', ⟨by first | omega | exact Nat.le_refl _⟩, ⟨by repeat (first | (with_reducible first | exact HB.out | apply below_alloc | apply pw_below_drewN | apply below_drew1) | exact HB.out)⟩⟩
        · rw [if_neg c8] at H
          have c8b0 : decide (64 < a1) = false := decide_eq_false c8
          clear c8
          by_cases c9 : a2 < 0
          · rw [if_pos c9] at H
            have c9b0 : decide (a2 < 0) = true := decide_eq_true c9
            clear c9
            have H' := Aside0.mk H
            clear H
            go_wp2
            go_meet
            case rel => exact ⟨_, (true), (by first | rfl | (simp; done) | (simp [*]; done)), H', ⟨by first | omega | exact Nat.le_refl _⟩, ⟨by repeat (first | (with_reducible first | exact HB.out | apply below_alloc | apply pw_below_drewN | apply below_drew1) | exact HB.out)⟩⟩
          · rw [if_neg c9] at H
            have c9b0 : decide (a2 < 0) = false := decide_eq_false c9
            clear c9
            by_cases c10 : a2 > 1048576
            · rw [if_pos c10] at H
              have c10b0 : decide (1048576 < a2) = true := decide_eq_true c10
              clear c10
              have H' := Aside0.mk H
              clear H
              go_wp2
              go_meet
              case rel => exact ⟨_, (true), (by first | rfl | (simp; done) | (simp [*]; done)), H', ⟨by first | omega | exact Nat.le_refl _⟩, ⟨by repeat (first | (with_reducible first | exact HB.out | apply below_alloc | apply pw_below_drewN | apply below_drew1) | exact HB.out)⟩⟩
            · rw [if_neg c10] at H
              have c10b0 : decide (1048576 < a2) = false := decide_eq_false c10
              clear c10
              by_cases c11 : a3 < 0
              · rw [if_pos c11] at H
                have c11b0 : decide (a3 < 0) = true := decide_eq_true c11
                clear c11
                have H' := Aside0.mk H
                clear H
                go_wp2
                go_meet
                case rel => exact ⟨_, (true), (by first | rfl | (simp; done) | (simp [*]; done)), H', ⟨by first | omega | exact Nat.le_refl _⟩, ⟨by repeat (first | (with_reducible first | exact HB.out | apply below_alloc | apply pw_below_drewN | apply below_drew1) | exact HB.out)⟩⟩
              · rw [if_neg c11] at H
                have c11b0 : decide (a3 < 0) = false := decide_eq_false c11
                clear c11
                have H' := Aside0.mk H
                clear H
                go_wp2
                go_meet
                case rel => exact ⟨_, (decide (a3 > 1048576)), (by first | rfl | (simp; done) | (simp [*]; done)), H', ⟨by first | omega | exact Nat.le_refl _⟩, ⟨by repeat (first | (with_reducible first | exact HB.out | apply below_alloc | apply pw_below_drewN | apply below_drew1) | exact HB.out)⟩⟩
  case rest =>
    clear HC5
    try clear c1
    try clear p2
    try clear c6
    try clear c6b0
    try clear c7
    try clear c7b0
    try clear c8
    try clear c8b0
    try clear c9
    try clear c9b0
    try clear c10
    try clear c10b0
    try clear c11
    try clear c11b0
    obtain ⟨kq, x38_4, rfl, HA, HJ4, HB⟩ := hcut
    cases kq with
    | zero => exact absurd HA.out (by simp [regenerate_Cut.j0])
    | succ kj4 =>
      have H := HA.out
      clear HA
      simp only [regenerate_Cut.j0] at H
      by_cases c12 : x38_4 = true
      · subst c12
        have H1 : (some (0, 6)) = some (r1, r2) := by rw [if_pos rfl] at H; exact H
        clear H
        have H := H1
        clear H1
        simp only [Option.some.injEq, Prod.mk.injEq] at H
        obtain ⟨rfl, rfl⟩ := H
        go_wp2
        go_ret2
        exact ⟨by first | rfl | (simp [errW_none, errW_some] <;> rfl) | (simp [*, errW_none, errW_some] <;> rfl), by repeat (first | (with_reducible first | exact HB.out | apply below_alloc | apply pw_below_drewN | apply below_drew1) | exact HB.out)⟩
      · replace c12 := Bool.eq_false_iff.mpr c12
        subst c12
        have H1 : (regenerate_Cut.l0 kj4 a1 a2 a3 0 a0 0) = some (r1, r2) := by rw [if_neg (show ¬ (false = true) by decide)] at H; exact H
        clear H
        have H := H1
        clear H1
        have H' := Aside0.mk H
        clear H
        go_wp2
        go_loopg [10, 40] kj4 (fun kq v10 v40 w' => ∃ (x10_2 : Int) (x40_2 : Int), v10 = .int .i64 x10_2 ∧ v40 = .int .i64 x40_2 ∧ Aside0 (regenerate_Cut.l0 kq a1 a2 a3 x10_2 a0 x40_2 = some (r1, r2)) ∧ Aside0 (kq ≤ kj4) ∧ Aside0 (Below w.heap.size w w'))
        case atStart => exact ⟨(0), (0), (by first | rfl | (simp; done) | (simp [*]; done)), (by first | rfl | (simp; done) | (simp [*]; done)), H', ⟨Nat.le_refl _⟩, ⟨by repeat (first | (with_reducible first | exact HB.out | apply below_alloc | apply pw_below_drewN | apply below_drew1) | exact HB.out)⟩⟩
        case round =>
          clear H'
          try clear c1
          try clear p2
          try clear c6
          try clear c6b0
          try clear c7
          try clear c7b0
          try clear c8
          try clear c8b0
          try clear c9
          try clear c9b0
          try clear c10
          try clear c10b0
          try clear c11
          try clear c11b0
          try clear c12
          try clear p2
          obtain ⟨x10_2, x40_2, rfl, rfl, HA, HK2, HB⟩ := hrel
          cases gk with
          | zero => exact absurd HA.out (by simp [regenerate_Cut.l0])
          | succ k2 =>
            have H := HA.out
            clear HA
            simp only [regenerate_Cut.l0] at H
            by_cases c13 : x40_2 < a0
            · rw [if_pos c13] at H
              have c13b0 : decide (x40_2 < a0) = true := decide_eq_true c13
              clear c13
              obtain ⟨ji14, hji14⟩ : ∃ j_ : Int, (mn a2 (wrap64 ((wrap64 (a1 - x40_2)) * a3))) = j_ := ⟨_, rfl⟩
              replace H : (regenerate_Cut.l0 k2 a1 a2 a3 (wrap64 (x10_2 + (ji14))) a0 (wrap64 (x40_2 + 1))) = some (r1, r2) := by first | (rw [hji14] at H; exact H) | (simp only [hji14] at H ⊢; exact H)
              have hji14_ : (if (wrap64 ((wrap64 (a1 - x40_2)) * a3)) < a2 then (wrap64 ((wrap64 (a1 - x40_2)) * a3)) else a2) = ji14 := hji14
              have H' := Aside0.mk H
              clear H
              go_wp2
              go_roundg k2
              case measure => have := HJ4.out; have := HK2.out; omega
              case rel => exact ⟨(wrap64 (x10_2 + (ji14))), (wrap64 (x40_2 + 1)), (by first | rfl | (simp; done) | (simp only [← hji14] <;> (first | rfl | simp)) | (simp [*]; done)), (by first | rfl | (simp; done) | (simp [*]; done)), H', ⟨by have := HJ4.out; have := HK2.out; omega⟩, ⟨by repeat (first | (with_reducible first | exact HB.out | apply below_alloc | apply pw_below_drewN | apply below_drew1) | exact HB.out)⟩⟩
            · rw [if_neg c13] at H
              have c13b0 : decide (x40_2 < a0) = false := decide_eq_false c13
              clear c13
              simp only [Option.some.injEq, Prod.mk.injEq] at H
              obtain ⟨rfl, rfl⟩ := H
              go_wp2
              go_ret2
              exact ⟨by first | rfl | (simp [errW_none, errW_some] <;> rfl) | (simp [*, errW_none, errW_some] <;> rfl), by repeat (first | (with_reducible first | exact HB.out | apply below_alloc | apply pw_below_drewN | apply below_drew1) | exact HB.out)⟩

/-! ### codewrightref52_CutArgs: function 16 -/
def codewrightref52_CutArgs.f (a0 : Int) (a1 : Int) (a2 : Int) (a3 : Int) : Option (Int) := if a0 < 1 then (some 6) else (if a0 > a1 then (some 6) else (if a1 > 64 then (some 6) else (if a2 < 0 then (some 6) else (if a2 > 1048576 then (some 6) else (if a3 < 0 then (some 6) else (if a3 > 1048576 then (some 6) else (some 0)))))))
set_option maxHeartbeats 8000000 in
set_option maxRecDepth 100000 in
theorem codewrightref52_CutArgs.calls (a0 : Int) (a1 : Int) (a2 : Int) (a3 : Int) (r : Int) (w : World) (h : codewrightref52_CutArgs.f a0 a1 a2 a3 = some r) :
    Calls Try.prog 16 #[.int .i64 a0, .int .i64 a1, .int .i64 a2, .int .i64 a3] w fun e w' => e = .returned (.int .i64 r) ∧ Drawn0 w w' := by
  have H : (if a0 < 1 then (some 6) else (if a0 > a1 then (some 6) else (if a1 > 64 then (some 6) else (if a2 < 0 then (some 6) else (if a2 > 1048576 then (some 6) else (if a3 < 0 then (some 6) else (if a3 > 1048576 then (some 6) else (some 0)))))))) = some r := h
  clear h
  by_cases c5 : a0 < 1
  · rw [if_pos c5] at H
    have c5b0 : decide (a0 < 1) = true := decide_eq_true c5
    clear c5
    obtain rfl := Option.some.inj H
    go_enter Try.func16, Try.ntmps16
    go_wp2
    go_ret
    exact ⟨by first | rfl | (simp; done) | (simp [*]; done), by repeat (first | exact Drawn0.refl _ | apply Drawn0.step)⟩
  · rw [if_neg c5] at H
    have c5b0 : decide (a0 < 1) = false := decide_eq_false c5
    clear c5
    by_cases c6 : a0 > a1
    · rw [if_pos c6] at H
      have c6b0 : decide (a1 < a0) = true := decide_eq_true c6
      clear c6
      obtain rfl := Option.some.inj H
      go_enter Try.func16, Try.ntmps16
      go_wp2
      go_ret
      exact ⟨by first | rfl | (simp; done) | (simp [*]; done), by repeat (first | exact Drawn0.refl _ | apply Drawn0.step)⟩
    · rw [if_neg c6] at H
      have c6b0 : decide (a1 < a0) = false := decide_eq_false c6
      clear c6
      by_cases c7 : a1 > 64
      · rw [if_pos c7] at H
        have c7b0 : decide (64 < a1) = true := decide_eq_true c7
        clear c7
        obtain rfl := Option.some.inj H
        go_enter Try.func16, Try.ntmps16
        go_wp2
        go_ret
        exact ⟨by first | rfl | (simp; done) | (simp [*]; done), by repeat (first | exact Drawn0.refl _ | apply Drawn0.step)⟩
      · rw [if_neg c7] at H
        have c7b0 : decide (64 < a1) = false := decide_eq_false c7
        clear c7
        by_cases c8 : a2 < 0
        · rw [if_pos c8] at H
          have c8b0 : decide (a2 < 0) = true := decide_eq_true c8
          clear c8
          obtain rfl := Option.some.inj H
          go_enter Try.func16, Try.ntmps16
          go_wp2
          go_ret
          exact ⟨by first | rfl | (simp; done) | (simp [*]; done), by repeat (first | exact Drawn0.refl _ | apply Drawn0.step)⟩
        · rw [if_neg c8] at H
          have c8b0 : decide (a2 < 0) = false := decide_eq_false c8
          clear c8
          by_cases c9 : a2 > 1048576
          · rw [if_pos c9] at H
            have c9b0 : decide (1048576 < a2) = true := decide_eq_true c9
            clear c9
            obtain rfl := Option.some.inj H
            go_enter Try.func16, Try.ntmps16
            go_wp2
            go_ret
            exact ⟨by first | rfl | (simp; done) | (simp [*]; done), by repeat (first | exact Drawn0.refl _ | apply Drawn0.step)⟩
          · rw [if_neg c9] at H
            have c9b0 : decide (1048576 < a2) = false := decide_eq_false c9
            clear c9
            by_cases c10 : a3 < 0
            · rw [if_pos c10] at H
              have c10b0 : decide (a3 < 0) = true := decide_eq_true c10
              clear c10
              obtain rfl := Option.some.inj H
              go_enter Try.func16, Try.ntmps16
              go_wp2
              go_ret
              exact ⟨by first | rfl | (simp; done) | (simp [*]; done), by repeat (first | exact Drawn0.refl _ | apply Drawn0.step)⟩
            · rw [if_neg c10] at H
              have c10b0 : decide (a3 < 0) = false := decide_eq_false c10
              clear c10
              by_cases c11 : a3 > 1048576
              · rw [if_pos c11] at H
                have c11b0 : decide (1048576 < a3) = true := decide_eq_true c11
                clear c11
                obtain rfl := Option.some.inj H
                go_enter Try.func16, Try.ntmps16
                go_wp2
                go_ret
                exact ⟨by first | rfl | (simp; done) | (simp [*]; done), by repeat (first | exact Drawn0.refl _ | apply Drawn0.step)⟩
              · rw [if_neg c11] at H
                have c11b0 : decide (1048576 < a3) = false := decide_eq_false c11
                clear c11
                obtain rfl := Option.some.inj H
                go_enter Try.func16, Try.ntmps16
                go_wp2
                go_ret
                exact ⟨by first | rfl | (simp; done) | (simp [*]; done), by repeat (first | exact Drawn0.refl _ | apply Drawn0.step)⟩

/-! ### codewrightref52_Cut: function 17 -/
def codewrightref52_Cut.l0 : Nat → Int → Int → Int → Int → Int → Int → Option (Int)
  | 0, _, _, _, _, _, _ => none
  | k + 1, x0, x1, x2, x3, x9, x10 => if x10 < x0 then (codewrightref52_Cut.l0 k x0 x1 x2 x3 (wrap64 (x9 + (mn x2 (wrap64 ((wrap64 (x1 - x10)) * x3))))) (wrap64 (x10 + 1))) else (some x9)
def codewrightref52_Cut.f (k : Nat) (a0 : Int) (a1 : Int) (a2 : Int) (a3 : Int) : Option (Int) := codewrightref52_Cut.l0 k a0 a1 a2 a3 0 0
theorem codewrightref52_Cut.mono_l : ∀ k, (∀ y0 y1 y2 y3 y4 y5, LeO (codewrightref52_Cut.l0 k y0 y1 y2 y3 y4 y5) (codewrightref52_Cut.l0 (k + 1) y0 y1 y2 y3 y4 y5))
  | 0 => fun _ _ _ _ _ _ r h => by simp [codewrightref52_Cut.l0] at h
  | k + 1 => by
    have ih0 := codewrightref52_Cut.mono_l k
    · intro y0 y1 y2 y3 y4 y5
      unfold codewrightref52_Cut.l0
      repeat' first
      | (with_reducible exact ih0 _ _ _ _ _ _)
      | (with_reducible exact LeO.refl _)
      | (with_reducible exact LeO.none _)
      | (with_reducible refine LeO.ite ?_ ?_)
      | (with_reducible refine LeO.bind ?_ (fun _ => ?_))
      | exact ih0 _ _ _ _ _ _
      | exact LeO.none _
      | refine LeO.ite ?_ ?_
      | refine LeO.bind ?_ (fun _ => ?_)
theorem codewrightref52_Cut.mono : ∀ a0 a1 a2 a3 k, LeO (codewrightref52_Cut.f k a0 a1 a2 a3) (codewrightref52_Cut.f (k + 1) a0 a1 a2 a3) := by
  intro a0 a1 a2 a3 k
  have ih0 := codewrightref52_Cut.mono_l k
  unfold codewrightref52_Cut.f
  repeat' first
      | (with_reducible exact ih0 _ _ _ _ _ _)
      | (with_reducible exact LeO.refl _)
      | (with_reducible exact LeO.none _)
      | (with_reducible refine LeO.ite ?_ ?_)
      | (with_reducible refine LeO.bind ?_ (fun _ => ?_))
      | exact ih0 _ _ _ _ _ _
      | exact LeO.none _
      | refine LeO.ite ?_ ?_
      | refine LeO.bind ?_ (fun _ => ?_)
set_option maxHeartbeats 8000000 in
set_option maxRecDepth 100000 in
theorem codewrightref52_Cut.calls (k : Nat) (a0 : Int) (a1 : Int) (a2 : Int) (a3 : Int) (r : Int) (w : World) (h : codewrightref52_Cut.f k a0 a1 a2 a3 = some r) :
    Calls Try.prog 17 #[.int .i64 a0, .int .i64 a1, .int .i64 a2, .int .i64 a3] w fun e w' => e = .returned (.int .i64 r) ∧ Below w.heap.size w w' := by
  have HB := Aside0.mk (Below.refl w.heap.size w)
  have H : (codewrightref52_Cut.l0 k a0 a1 a2 a3 0 0) = some r := h
  clear h
  have H' := Aside0.mk H
  clear H
  go_enter Try.func17, Try.ntmps17
  go_wp2
  go_loopg [9, 10] k (fun kq v9 v10 w' => ∃ (x9_1 : Int) (x10_1 : Int), v9 = .int .i64 x9_1 ∧ v10 = .int .i64 x10_1 ∧ Aside0 (codewrightref52_Cut.l0 kq a0 a1 a2 a3 x9_1 x10_1 = some r) ∧ Aside0 (kq ≤ k) ∧ Aside0 (Below w.heap.size w w'))
  case atStart => exact ⟨(0), (0), (by first | rfl | (simp; done) | (simp [*]; done)), (by first | rfl | (simp; done) | (simp [*]; done)), H', ⟨Nat.le_refl _⟩, ⟨by repeat (first | (with_reducible first | exact HB.out | apply below_alloc | apply pw_below_drewN | apply below_drew1) | exact HB.out)⟩⟩
  case round =>
    clear H'
    try clear c1
    try clear p2
    obtain ⟨x9_1, x10_1, rfl, rfl, HA, HK1, HB⟩ := hrel
    cases gk with
    | zero => exact absurd HA.out (by simp [codewrightref52_Cut.l0])
    | succ k1 =>
      have H := HA.out
      clear HA
      simp only [codewrightref52_Cut.l0] at H
      by_cases c5 : x10_1 < a0
      · rw [if_pos c5] at H
        have c5b0 : decide (x10_1 < a0) = true := decide_eq_true c5
        clear c5
        obtain ⟨ji6, hji6⟩ : ∃ j_ : Int, (mn a2 (wrap64 ((wrap64 (a1 - x10_1)) * a3))) = j_ := ⟨_, rfl⟩
        replace H : (codewrightref52_Cut.l0 k1 a0 a1 a2 a3 (wrap64 (x9_1 + (ji6))) (wrap64 (x10_1 + 1))) = some r := by first | (rw [hji6] at H; exact H) | (simp only [hji6] at H ⊢; exact H)
        have hji6_ : (if (wrap64 ((wrap64 (a1 - x10_1)) * a3)) < a2 then (wrap64 ((wrap64 (a1 - x10_1)) * a3)) else a2) = ji6 := hji6
        have H' := Aside0.mk H
        clear H
        go_wp2
        go_roundg k1
        case measure => have := HK1.out; omega
        case rel => exact ⟨(wrap64 (x9_1 + (ji6))), (wrap64 (x10_1 + 1)), (by first | rfl | (simp; done) | (simp only [← hji6] <;> (first | rfl | simp)) | (simp [*]; done)), (by first | rfl | (simp; done) | (simp [*]; done)), H', ⟨by have := HK1.out; omega⟩, ⟨by repeat (first | (with_reducible first | exact HB.out | apply below_alloc | apply pw_below_drewN | apply below_drew1) | exact HB.out)⟩⟩
      · rw [if_neg c5] at H
        have c5b0 : decide (x10_1 < a0) = false := decide_eq_false c5
        clear c5
        obtain rfl := Option.some.inj H
        go_wp2
        go_ret
        exact ⟨by first | rfl | (simp [errW_none, errW_some] <;> rfl) | (simp [*, errW_none, errW_some] <;> rfl), by repeat (first | (with_reducible first | exact HB.out | apply below_alloc | apply pw_below_drewN | apply below_drew1) | exact HB.out)⟩

/-! ### codewrightlaw52_RegenerateCuts: function 3 -/
def codewrightlaw52_RegenerateCuts.f (k : Nat) (a0 : Int) (a1 : Int) (a2 : Int) (a3 : Int) : Option (Bool) := (regenerate_Cut.f k a0 a1 a2 a3).bind fun bt101 => ((codewrightref52_CutArgs.f a0 a1 a2 a3).bind fun t103 => (if t103 = 0 then (if bt101.2 = 0 then ((codewrightref52_Cut.f k a0 a1 a2 a3).bind fun t104 => (some (bt101.1 == t104))) else (some false)) else (if bt101.2 = 6 then (some (bt101.1 == 0)) else (some false))))
theorem codewrightlaw52_RegenerateCuts.mono : ∀ a0 a1 a2 a3 k, LeO (codewrightlaw52_RegenerateCuts.f k a0 a1 a2 a3) (codewrightlaw52_RegenerateCuts.f (k + 1) a0 a1 a2 a3) := by
  intro a0 a1 a2 a3 k
  unfold codewrightlaw52_RegenerateCuts.f
  repeat' first
      | (with_reducible exact codewrightref52_Cut.mono _ _ _ _ _)
      | (with_reducible exact regenerate_Cut.mono _ _ _ _ _)
      | (with_reducible exact LeO.refl _)
      | (with_reducible exact LeO.none _)
      | (with_reducible refine LeO.ite ?_ ?_)
      | (with_reducible refine LeO.bind ?_ (fun _ => ?_))
      | exact codewrightref52_Cut.mono _ _ _ _ _
      | exact regenerate_Cut.mono _ _ _ _ _
      | exact LeO.none _
      | refine LeO.ite ?_ ?_
      | refine LeO.bind ?_ (fun _ => ?_)
set_option maxHeartbeats 8000000 in
set_option maxRecDepth 100000 in
theorem codewrightlaw52_RegenerateCuts.calls (k : Nat) (a0 : Int) (a1 : Int) (a2 : Int) (a3 : Int) (r : Bool) (w : World) (h : codewrightlaw52_RegenerateCuts.f k a0 a1 a2 a3 = some r) :
    Calls Try.prog 3 #[.int .i64 a0, .int .i64 a1, .int .i64 a2, .int .i64 a3] w fun e w' => e = .returned (.bool r) ∧ Below w.heap.size w w' := by
  have HB := Aside0.mk (Below.refl w.heap.size w)
  have H : ((regenerate_Cut.f k a0 a1 a2 a3).bind fun bt101 => ((codewrightref52_CutArgs.f a0 a1 a2 a3).bind fun t103 => (if t103 = 0 then (if bt101.2 = 0 then ((codewrightref52_Cut.f k a0 a1 a2 a3).bind fun t104 => (some (bt101.1 == t104))) else (some false)) else (if bt101.2 = 6 then (some (bt101.1 == 0)) else (some false))))) = some r := h
  clear h
  replace H := Option.bind_eq_some_iff.mp H
  obtain ⟨⟨t101, t102⟩, A50, H⟩ := H
  replace H : ((codewrightref52_CutArgs.f a0 a1 a2 a3).bind fun t103 => (if t103 = 0 then (if t102 = 0 then ((codewrightref52_Cut.f k a0 a1 a2 a3).bind fun t104 => (some (t101 == t104))) else (some false)) else (if t102 = 6 then (some (t101 == 0)) else (some false)))) = some r := H
  have A5 := Aside0.mk A50
  clear A50
  replace H := Option.bind_eq_some_iff.mp H
  obtain ⟨t103, A60, H⟩ := H
  replace H : (if t103 = 0 then (if t102 = 0 then ((codewrightref52_Cut.f k a0 a1 a2 a3).bind fun t104 => (some (t101 == t104))) else (some false)) else (if t102 = 6 then (some (t101 == 0)) else (some false))) = some r := H
  have A6 := Aside0.mk A60
  clear A60
  by_cases c7 : t103 = 0
  · rw [if_pos c7] at H
    have c7b0 : (t103 == 0) = true := beq_iff_eq.mpr c7
    have c7b1 : (t103 != 0) = false := bne_eq_false_iff_eq.mpr c7
    clear c7
    by_cases c8 : t102 = 0
    · rw [if_pos c8] at H
      have c8b0 : (t102 == 0) = true := beq_iff_eq.mpr c8
      have c8b1 : (t102 != 0) = false := bne_eq_false_iff_eq.mpr c8
      clear c8
      replace H := Option.bind_eq_some_iff.mp H
      obtain ⟨t104, A90, H⟩ := H
      replace H : (some (t101 == t104)) = some r := H
      have A9 := Aside0.mk A90
      clear A90
      obtain rfl := Option.some.inj H
      go_enter Try.func3, Try.ntmps3
      go_wp2_with (first | ((with_reducible refine gate_callee (f := 15) rfl ?_); refine goesL_ (some 16) rfl rfl Try.func15 (by kernel_rfl) rfl #[.int .i64 a0, .int .i64 a1, .int .i64 a2, .int .i64 a3] rfl (by (try simp only [List.map_toArray, List.map_cons, List.map_nil]); first | done | rfl | (simp only [List.length_drop, List.length_take]; rfl)) ?_; (with_reducible refine (regenerate_Cut.calls k a0 a1 a2 a3 t101 t102 _ A5.out).mono ?_); rintro e w10 ⟨rfl, hb⟩; refine ⟨_, rfl, ?_⟩; have n0_ := Aside0.mk (below_step (by repeat (first | (with_reducible first | exact HB.out | apply below_alloc | apply pw_below_drewN | apply below_drew1) | exact HB.out)) hb); clear HB; have HB := n0_; clear n0_; (try clear hb); (try clear hb2); (try clear hk); (try clear hi)) | ((with_reducible refine gate_callee (f := 16) rfl ?_); refine goesL_ (some 23) rfl rfl Try.func16 (by kernel_rfl) rfl #[.int .i64 a0, .int .i64 a1, .int .i64 a2, .int .i64 a3] rfl (by (try simp only [List.map_toArray, List.map_cons, List.map_nil]); first | done | rfl | (simp only [List.length_drop, List.length_take]; rfl)) ?_; (with_reducible refine (codewrightref52_CutArgs.calls a0 a1 a2 a3 t103 _ A6.out).mono ?_); rintro e w' ⟨rfl, ⟨nd, rfl⟩⟩; refine ⟨_, rfl, ?_⟩) | (go_at_call 17; (with_reducible refine (codewrightref52_Cut.calls k a0 a1 a2 a3 t104 _ A9.out).mono ?_); rintro e w11 ⟨rfl, hb⟩; have n0_ := Aside0.mk (below_step (by repeat (first | (with_reducible first | exact HB.out | apply below_alloc | apply pw_below_drewN | apply below_drew1) | exact HB.out)) hb); clear HB; have HB := n0_; clear n0_; (try clear hb); (try clear hb2); (try clear hk); (try clear hi)))
      go_ret
      exact ⟨by first | rfl | (simp [errW_none, errW_some] <;> rfl) | (simp [*, errW_none, errW_some] <;> rfl), by repeat (first | (with_reducible first | exact HB.out | apply below_alloc | apply pw_below_drewN | apply below_drew1) | exact HB.out)⟩
    · rw [if_neg c8] at H
      have c8b0 : (t102 == 0) = false := beq_eq_false_iff_ne.mpr c8
      have c8b1 : (t102 != 0) = true := bne_iff_ne.mpr c8
      obtain rfl := Option.some.inj H
      go_enter Try.func3, Try.ntmps3
      go_wp2_with (first | ((with_reducible refine gate_callee (f := 15) rfl ?_); refine goesL_ (some 16) rfl rfl Try.func15 (by kernel_rfl) rfl #[.int .i64 a0, .int .i64 a1, .int .i64 a2, .int .i64 a3] rfl (by (try simp only [List.map_toArray, List.map_cons, List.map_nil]); first | done | rfl | (simp only [List.length_drop, List.length_take]; rfl)) ?_; (with_reducible refine (regenerate_Cut.calls k a0 a1 a2 a3 t101 t102 _ A5.out).mono ?_); rintro e w12 ⟨rfl, hb⟩; refine ⟨_, rfl, ?_⟩; have n0_ := Aside0.mk (below_step (by repeat (first | (with_reducible first | exact HB.out | apply below_alloc | apply pw_below_drewN | apply below_drew1) | exact HB.out)) hb); clear HB; have HB := n0_; clear n0_; (try clear hb); (try clear hb2); (try clear hk); (try clear hi)) | ((with_reducible refine gate_callee (f := 16) rfl ?_); refine goesL_ (some 23) rfl rfl Try.func16 (by kernel_rfl) rfl #[.int .i64 a0, .int .i64 a1, .int .i64 a2, .int .i64 a3] rfl (by (try simp only [List.map_toArray, List.map_cons, List.map_nil]); first | done | rfl | (simp only [List.length_drop, List.length_take]; rfl)) ?_; (with_reducible refine (codewrightref52_CutArgs.calls a0 a1 a2 a3 t103 _ A6.out).mono ?_); rintro e w' ⟨rfl, ⟨nd, rfl⟩⟩; refine ⟨_, rfl, ?_⟩))
      go_ret
      exact ⟨by first | rfl | (simp [errW_none, errW_some] <;> rfl) | (simp [*, errW_none, errW_some] <;> rfl), by repeat (first | (with_reducible first | exact HB.out | apply below_alloc | apply pw_below_drewN | apply below_drew1) | exact HB.out)⟩
  · rw [if_neg c7] at H
    have c7b0 : (t103 == 0) = false := beq_eq_false_iff_ne.mpr c7
    have c7b1 : (t103 != 0) = true := bne_iff_ne.mpr c7
    by_cases c13 : t102 = 6
    · rw [if_pos c13] at H
      have c13b0 : (t102 == 6) = true := beq_iff_eq.mpr c13
      have c13b1 : (t102 != 6) = false := bne_eq_false_iff_eq.mpr c13
      clear c13
      obtain rfl := Option.some.inj H
      go_enter Try.func3, Try.ntmps3
      go_wp2_with (first | ((with_reducible refine gate_callee (f := 15) rfl ?_); refine goesL_ (some 16) rfl rfl Try.func15 (by kernel_rfl) rfl #[.int .i64 a0, .int .i64 a1, .int .i64 a2, .int .i64 a3] rfl (by (try simp only [List.map_toArray, List.map_cons, List.map_nil]); first | done | rfl | (simp only [List.length_drop, List.length_take]; rfl)) ?_; (with_reducible refine (regenerate_Cut.calls k a0 a1 a2 a3 t101 t102 _ A5.out).mono ?_); rintro e w14 ⟨rfl, hb⟩; refine ⟨_, rfl, ?_⟩; have n0_ := Aside0.mk (below_step (by repeat (first | (with_reducible first | exact HB.out | apply below_alloc | apply pw_below_drewN | apply below_drew1) | exact HB.out)) hb); clear HB; have HB := n0_; clear n0_; (try clear hb); (try clear hb2); (try clear hk); (try clear hi)) | ((with_reducible refine gate_callee (f := 16) rfl ?_); refine goesL_ (some 23) rfl rfl Try.func16 (by kernel_rfl) rfl #[.int .i64 a0, .int .i64 a1, .int .i64 a2, .int .i64 a3] rfl (by (try simp only [List.map_toArray, List.map_cons, List.map_nil]); first | done | rfl | (simp only [List.length_drop, List.length_take]; rfl)) ?_; (with_reducible refine (codewrightref52_CutArgs.calls a0 a1 a2 a3 t103 _ A6.out).mono ?_); rintro e w' ⟨rfl, ⟨nd, rfl⟩⟩; refine ⟨_, rfl, ?_⟩))
      go_ret
      exact ⟨by first | rfl | (simp [errW_none, errW_some] <;> rfl) | (simp [*, errW_none, errW_some] <;> rfl), by repeat (first | (with_reducible first | exact HB.out | apply below_alloc | apply pw_below_drewN | apply below_drew1) | exact HB.out)⟩
    · rw [if_neg c13] at H
      have c13b0 : (t102 == 6) = false := beq_eq_false_iff_ne.mpr c13
      have c13b1 : (t102 != 6) = true := bne_iff_ne.mpr c13
      obtain rfl := Option.some.inj H
      go_enter Try.func3, Try.ntmps3
      go_wp2_with (first | ((with_reducible refine gate_callee (f := 15) rfl ?_); refine goesL_ (some 16) rfl rfl Try.func15 (by kernel_rfl) rfl #[.int .i64 a0, .int .i64 a1, .int .i64 a2, .int .i64 a3] rfl (by (try simp only [List.map_toArray, List.map_cons, List.map_nil]); first | done | rfl | (simp only [List.length_drop, List.length_take]; rfl)) ?_; (with_reducible refine (regenerate_Cut.calls k a0 a1 a2 a3 t101 t102 _ A5.out).mono ?_); rintro e w15 ⟨rfl, hb⟩; refine ⟨_, rfl, ?_⟩; have n0_ := Aside0.mk (below_step (by repeat (first | (with_reducible first | exact HB.out | apply below_alloc | apply pw_below_drewN | apply below_drew1) | exact HB.out)) hb); clear HB; have HB := n0_; clear n0_; (try clear hb); (try clear hb2); (try clear hk); (try clear hi)) | ((with_reducible refine gate_callee (f := 16) rfl ?_); refine goesL_ (some 23) rfl rfl Try.func16 (by kernel_rfl) rfl #[.int .i64 a0, .int .i64 a1, .int .i64 a2, .int .i64 a3] rfl (by (try simp only [List.map_toArray, List.map_cons, List.map_nil]); first | done | rfl | (simp only [List.length_drop, List.length_take]; rfl)) ?_; (with_reducible refine (codewrightref52_CutArgs.calls a0 a1 a2 a3 t103 _ A6.out).mono ?_); rintro e w' ⟨rfl, ⟨nd, rfl⟩⟩; refine ⟨_, rfl, ?_⟩))
      go_ret
      exact ⟨by first | rfl | (simp [errW_none, errW_some] <;> rfl) | (simp [*, errW_none, errW_some] <;> rfl), by repeat (first | (with_reducible first | exact HB.out | apply below_alloc | apply pw_below_drewN | apply below_drew1) | exact HB.out)⟩

/-- THE ONE PURE STATEMENT of codewrightlaw52_RegenerateCuts: yours. -/
def codewrightlaw52_RegenerateCuts.Pure : Prop := ∀ (a0 : Int) (a1 : Int) (a2 : Int) (a3 : Int), (Lit.int .i64 a0).wf = true → (Lit.int .i64 a1).wf = true → (Lit.int .i64 a2).wf = true → (Lit.int .i64 a3).wf = true → ∃ k, codewrightlaw52_RegenerateCuts.f k a0 a1 a2 a3 = some true
theorem codewrightlaw52_RegenerateCuts.walk (P : codewrightlaw52_RegenerateCuts.Pure) (a0 : Int) (a1 : Int) (a2 : Int) (a3 : Int) (w : World) (w0 : (Lit.int .i64 a0).wf = true) (w1 : (Lit.int .i64 a1).wf = true) (w2 : (Lit.int .i64 a2).wf = true) (w3 : (Lit.int .i64 a3).wf = true) :
    Calls Try.prog 3 #[.int .i64 a0, .int .i64 a1, .int .i64 a2, .int .i64 a3] w fun e w' => e = .returned (.bool true) ∧ Below w.heap.size w w' := by
  obtain ⟨k, h⟩ := P a0 a1 a2 a3 w0 w1 w2 w3
  refine (codewrightlaw52_RegenerateCuts.calls k a0 a1 a2 a3 true w h).mono ?_
  rintro e w' ⟨rfl, hd⟩
  exact ⟨rfl, hd⟩

end Go.Proofs.Ytmihmgnjnedfcaa.PRegenerateCuts
