/- Contracts of functions: powers of the reference and of the program, elements. -/
import Derived.Test.YtmihmgnjnedfcaaF8
set_option maxRecDepth 100000
set_option linter.unusedSimpArgs false
set_option linter.unusedVariables false
namespace Go.AM.Ytmihmgnjnedfcaa
open Go Go.AM
attribute [local simp ↓] awp_seq awp_reg awp_skip awp_cond awp_block awp_exit awp_ret awp_fz thenW_normal thenW_exit thenW_ret inBlk_normal inBlk_exit inBlk_ret aops_cons aops_nil e_mv e_guard e_pick e_ld e_app e_cpy e_st e_call callW_f updO_some updO_none e_bin e_isnil e_fadr e_iadr e_iarr e_len e_build e_mkf e_nc e_not e_neg e_cvt e_slc e_fld e_ext e_min e_eqs e_new e_box e_mkl e_mks
attribute [local simp] upd_apply ev_t ev_k ev_f binA_add binA_sub binA_mul binA_quo binA_rem binA_eql binA_neq binA_lss binA_leq binA_gtr binA_geq det mem frame0 keeps_nil iadrA_sl fadrA_ref fadrA_fp ldv_agg ldv_one cells_base hset_same hset_hset lenA_fs lenA_sl lenA_nils zeros_ints ints_length one_base one_nilp one_nils one_ref one_sl one_fp one_fs one_fn gl_one resA resOf bound natOf afill splice AV.cells cells_agg bindW_some condW_true condW_false condW_dec condW_ndec guardW_tup guardW_true guardW_true' guardW_false guardW_false' allocW_some pickA_true pickA_false
open Go.FM

theorem Ds.inn_pw {D : Ds} (o : D.Ok) (x : Int) : ∀ n, D.pw (D.inn x) n = D.pw x n
  | 0 => rfl
  | n + 1 => by simp only [Ds.pw]; rw [Ds.inn_pw o x n, o.mul_inn]

theorem pw_zero {D : Ds} (o : D.Ok) {n : Nat} (h : 0 < n) : D.pw 0 n = 0 := by
  obtain ⟨m, rfl⟩ : ∃ m, n = m + 1 := ⟨n - 1, by omega⟩
  simp only [Ds.pw]; rw [o.mul_zero]

/-- Fermat. -/
theorem pw_q1 {D : Ds} (r : Rg D) (hg : ∃ g, D.Gen g) {x : Int} (hx : D.R x) (h0 : x ≠ 0) : D.pw x (D.q - 1) = 1 := by
  obtain ⟨g, hg⟩ := hg
  obtain ⟨i, _, rfl⟩ := hg.all r.toOk hx h0
  have key : ∀ n, D.pw (D.pw g i) n = D.pw g (i * n) := by
    intro n
    induction n with
    | zero => rfl
    | succ n ih => simp only [Ds.pw]; rw [ih, ← r.toOk.pw_add, Nat.mul_succ]
  rw [key, Nat.mul_comm]
  exact Ds.pw_mul_q r.toOk hg.top i

theorem pw_mod {D : Ds} (r : Rg D) (hg : ∃ g, D.Gen g) {x : Int} (hx : D.R x) (h0 : x ≠ 0) (n : Nat) : D.pw x (n % (D.q - 1)) = D.pw x n := by
  conv => rhs; rw [← Nat.div_add_mod n (D.q - 1)]
  rw [r.toOk.pw_add, Ds.pw_mul_q r.toOk (pw_q1 r hg hx h0), r.toOk.one_mul, Ds.inn_of (r.toOk.pwR _ _)]

/-- A field: a ring with a generator. -/
structure Fd (D : Ds) : Prop extends Rg D where
  gen : ∃ g, D.Gen g

theorem s_refPow {D : Ds} (r : Fd D) {mv : AV} (hmv : IL mv D.mo) (x : Int) (n : Nat) (hn : n ≤ 4611686018427387904) : Pure prog n_ref04_Pow [.agg [I D.p, I D.m, mv], I x, I n] (.tup [I (D.pw x n), I 0]) := by
  refine pure_of cf_ref04_Pow rfl fun h => ?_
  have hone := hmv.one
  have hq := r.q256
  have hq2 := r.q2
  simp [hone]
  intro b3 hb3
  obtain ⟨l0, l1, l2, l3⟩ := ld3_at (hset_same h b3 [I D.p, I D.m, mv])
  have hkg : Kp h (hset h b3 [I D.p, I D.m, mv]) := (Kp.refl h).new hb3 _
  generalize hset h b3 [I D.p, I D.m, mv] = g at *
  have fin : ∀ z, D.pw x n = z → RetP h (.tup [I (D.pw x n), I 0]) (.tup [I z, I 0]) g := fun z hz => hz ▸ ⟨_, hkg.sub, .id _, rfl⟩
  simp [l3]
  refine (s_refIn r.toRg hone x).call ?_
  by_cases c1 : n = 0
  · subst c1
    simp
    exact fin 1 rfl
  have c1' : ¬ (n : Int) = 0 := by omega
  have c2 : ¬ (n : Int) < 0 := by omega
  have hR := r.toOk.innR x
  have hpi := Ds.inn_pw r.toOk x n
  generalize hy : D.inn x = y at *
  by_cases c3 : y = 0
  · simp [c1, c1', c2, c3]
    exact fin 0 (by rw [← hpi, c3, pw_zero r.toOk (by omega)])
  simp [c1, c1', c2, c3, l3]
  refine (s_Order D.p D.m hone).call ?_
  rw [r.ord]
  have u1 : IntKind.i64.wrap ((D.q : Int) - 1) = ((D.q - 1 : Nat) : Int) := by rw [w64 _ (by omega)]; omega
  have hk0 : ¬ ((D.q - 1 : Nat) : Int) = 0 := by omega
  have hk0' : ¬ D.q - 1 = 0 := by omega
  have t1 : (n : Int).tmod ((D.q - 1 : Nat) : Int) = ((n % (D.q - 1) : Nat) : Int) := (Int.ofNat_tmod _ _).symm
  have hlt : n % (D.q - 1) < D.q - 1 := Nat.mod_lt _ (by omega)
  have u2 : IntKind.i64.wrap (((n % (D.q - 1) : Nat) : Int) + ((D.q - 1 : Nat) : Int)) = ((n % (D.q - 1) + (D.q - 1) : Nat) : Int) := by rw [w64 _ (by omega)]; omega
  have t2 : ((n % (D.q - 1) + (D.q - 1) : Nat) : Int).tmod ((D.q - 1 : Nat) : Int) = ((n % (D.q - 1) : Nat) : Int) := by
    rw [← Int.ofNat_tmod, Nat.add_mod_right, Nat.mod_mod]
  have hpm := pw_mod r.toRg r.gen (hy ▸ hR) c3 n
  have hQ1 : D.q - 1 ≤ 255 := by omega
  generalize n % (D.q - 1) = j at *
  generalize D.q - 1 = Q1 at *
  generalize j + Q1 = jQ at *
  simp [u1, hk0, hk0', t1, u2, t2]
  refine awp_for j (fun i fr' h' => h' = g ∧ fr' 10 = I i ∧ fr' 9 = I (D.pw y i)) ⟨rfl, by simp, by simp [Ds.pw]⟩ ?_
  intro i fr' h' hin hk ⟨hh, k10, k9⟩
  subst hh
  have k1 := hk 1 (by decide)
  have k2 := hk 2 (by decide)
  have k3 := hk 3 (by decide)
  simp at k1 k2 k3
  clear hk
  by_cases hi : i < j
  · have u3 : IntKind.i64.wrap ((i : Int) + 1) = i + 1 := w64 _ (by omega)
    simp [k1, k2, k3, k9, k10, hi, l3]
    refine (s_refMul r.toRg hmv (D.pw y i) y).call ?_
    simp [k10, u3]
    rfl
  · have : i = j := by omega
    subst this
    simp [k2, k9, k10]
    exact fin _ (by rw [← hpi, hpm])

theorem s_power {D : Ds} (r : Fd D) {mv : AV} (hmv : IL mv D.mo) (x : Int) (n : Nat) (hn : n ≤ 4611686018427387904) : Pure prog n_ref52_power [.agg [I D.p, I D.m, mv], I x, I n] (I (D.pw x n)) := by
  refine pure_of cf_ref52_power rfl fun h => ?_
  have hone := hmv.one
  simp [hone]
  intro b3 hb3
  obtain ⟨l0, l1, l2, l3⟩ := ld3_at (hset_same h b3 [I D.p, I D.m, mv])
  have hkg : Kp h (hset h b3 [I D.p, I D.m, mv]) := (Kp.refl h).new hb3 _
  generalize hset h b3 [I D.p, I D.m, mv] = g at *
  simp [l3]
  refine (s_refPow r hmv x n hn).call ?_
  simp
  exact ⟨_, hkg.sub, .id _, rfl⟩

/-! ### The program's -/

theorem gf_ld (D : Ds) (h : Hp) : cellsAt h (.fp ((gfC D).drop 3)) 1 = some [I D.q] ∧ cellsAt h (.fp ((gfC D).drop 4)) 1 = some [.fs (D.q - 1) (ints (pwL D (gen0 D) (D.q - 1)))] ∧ cellsAt h (.fp ((gfC D).drop 5)) 1 = some [.fs D.q (ints (logK D (gen0 D) (D.q - 1)))] ∧
    cellsAt h (.fp ((gfC D).drop 0)) 1 = some [I D.p] ∧ cellsAt h (.fp ((gfC D).drop 1)) 1 = some [I D.m] := by
  refine ⟨?_, ?_, ?_, ?_, ?_⟩ <;> rw [cellsAt_fp, if_pos (by simp [gfC])] <;> rfl

theorem s_Is {D : Ds} (r : Fd D) (x : Int) : Pure prog n_field_GF_Is [.fp (gfC D), I x] (B (decide (0 ≤ x ∧ x < D.q))) := by
  refine pure_of cf_field_GF_Is rfl fun h => ?_
  have g3 := (gf_ld D h).1
  by_cases c : 0 ≤ x
  · simp [c, isNil, g3]
    exact RetP.same
  · simp [c]
    exact RetP.same

theorem s_in {D : Ds} (r : Fd D) (x : Int) : Pure prog n_field_GF_in [.fp (gfC D), I x] (I (D.inn x)) := by
  refine pure_of cf_field_GF_in rfl fun h => ?_
  simp
  refine (s_Is r x).call ?_
  unfold Ds.inn
  by_cases c : 0 ≤ x ∧ x < D.q
  · rw [decide_eq_true c, if_pos c]
    simp
    exact RetP.same
  · rw [decide_eq_false c, if_neg c]
    simp
    exact RetP.same

/-- The exponent of an element. -/
theorem log_ex {D : Ds} (r : Fd D) {y : Int} (hy : D.R y) (h0 : y ≠ 0) : ∃ i, i < D.q - 1 ∧ D.pw (gen0 D) i = y ∧ (logK D (gen0 D) (D.q - 1)).getD y.toNat 0 = i := by
  have g1 := (gen0_spec r.toRg r.gen).1
  obtain ⟨i, hi, rfl⟩ := g1.all r.toOk hy h0
  exact ⟨i, hi, rfl, logK_get r.toOk g1 _ (Nat.le_refl _) i hi⟩

theorem s_Pow {D : Ds} (r : Fd D) (x : Int) (n : Nat) (hn : n ≤ 4611686018427387904) : Pure prog n_field_GF_Pow [.fp (gfC D), I x, I n] (.tup [I (D.pw x n), I 0]) := by
  refine pure_of cf_field_GF_Pow rfl fun h => ?_
  have hq := r.q256
  have hq2 := r.q2
  have fin : ∀ z, D.pw x n = z → RetP h (.tup [I (D.pw x n), I 0]) (.tup [I z, I 0]) h := fun z hz => hz ▸ RetP.same
  simp
  refine (s_in r x).call ?_
  by_cases c1 : n = 0
  · subst c1
    simp
    exact fin 1 rfl
  have c1' : ¬ (n : Int) = 0 := by omega
  have c2 : ¬ (n : Int) < 0 := by omega
  have hR := r.toOk.innR x
  have hpi := Ds.inn_pw r.toOk x n
  generalize hy : D.inn x = y at *
  by_cases c3 : y = 0
  · simp [c1, c1', c2, c3]
    exact fin 0 (by rw [← hpi, c3, pw_zero r.toOk (by omega)])
  obtain ⟨i, hi, hpw, hlog⟩ := log_ex r hR c3
  have g1 := (gen0_spec r.toRg r.gen).1
  obtain ⟨l3, l4, l5, _, _⟩ := gf_ld D h
  have hIl := IL.fs (logK D (gen0 D) (D.q - 1))
  rw [logK_len] at hIl
  have hIe := IL.fs (pwL D (gen0 D) (D.q - 1))
  rw [pwL_len] at hIe
  have hR1 := hR.1
  have hR2 := hR.2
  have hia := hIl.iadr (i := y) ⟨hR1, by rw [logK_len]; exact hR2⟩
  have hld := fun h' => ld_ints (h := h') (l := logK D (gen0 D) (D.q - 1)) (k := y.toNat) (by rw [logK_len]; omega)
  rw [hlog] at hld
  have u1 : IntKind.i64.wrap ((D.q : Int) - 1) = ((D.q - 1 : Nat) : Int) := by rw [w64 _ (by omega)]; omega
  have hk0 : ¬ ((D.q - 1 : Nat) : Int) = 0 := by omega
  have hk0' : ¬ D.q - 1 = 0 := by omega
  have t1 : (n : Int).tmod ((D.q - 1 : Nat) : Int) = ((n % (D.q - 1) : Nat) : Int) := (Int.ofNat_tmod _ _).symm
  have hlt : n % (D.q - 1) < D.q - 1 := Nat.mod_lt _ (by omega)
  have u2 : IntKind.i64.wrap (((n % (D.q - 1) : Nat) : Int) + ((D.q - 1 : Nat) : Int)) = ((n % (D.q - 1) + (D.q - 1) : Nat) : Int) := by rw [w64 _ (by omega)]; omega
  have t2 : ((n % (D.q - 1) + (D.q - 1) : Nat) : Int).tmod ((D.q - 1 : Nat) : Int) = ((n % (D.q - 1) : Nat) : Int) := by
    rw [← Int.ofNat_tmod, Nat.add_mod_right, Nat.mod_mod]
  have hb : i * (n % (D.q - 1)) ≤ 256 * 256 := Nat.mul_le_mul (by omega) (by omega)
  have u3 : IntKind.i64.wrap ((i : Int) * ((n % (D.q - 1) : Nat) : Int)) = ((i * (n % (D.q - 1)) : Nat) : Int) := by rw [← Int.natCast_mul]; exact w64 _ (by omega)
  have t3 : ((i * (n % (D.q - 1)) : Nat) : Int).tmod ((D.q - 1 : Nat) : Int) = ((i * (n % (D.q - 1)) % (D.q - 1) : Nat) : Int) := (Int.ofNat_tmod _ _).symm
  have hlt2 : i * (n % (D.q - 1)) % (D.q - 1) < D.q - 1 := Nat.mod_lt _ (by omega)
  have hib := hIe.iadr (i := ((i * (n % (D.q - 1)) % (D.q - 1) : Nat) : Int)) ⟨by omega, by rw [pwL_len]; omega⟩
  simp only [Int.toNat_natCast] at hib
  have hlde := fun h' => ld_ints (h := h') (l := pwL D (gen0 D) (D.q - 1)) (k := i * (n % (D.q - 1)) % (D.q - 1)) (by rw [pwL_len]; omega)
  rw [pwL_getD hlt2] at hlde
  have hres : D.pw (gen0 D) (i * (n % (D.q - 1)) % (D.q - 1)) = D.pw x n := by
    rw [← g1.mod r.toOk, ← hpi, ← pw_mod r.toRg r.gen hR c3 n, ← hpw]
    have key : ∀ k, D.pw (D.pw (gen0 D) i) k = D.pw (gen0 D) (i * k) := by
      intro k
      induction k with
      | zero => rfl
      | succ k ih => simp only [Ds.pw]; rw [ih, ← r.toOk.pw_add, Nat.mul_succ]
    rw [key]
  rw [hres] at hlde
  clear hres hlog hpw
  generalize i * (n % (D.q - 1)) % (D.q - 1) = e3 at *
  generalize i * (n % (D.q - 1)) = e2 at *
  generalize n % (D.q - 1) = e1 at *
  generalize e1 + (D.q - 1) = e4 at *
  simp only [gfC] at l3 l4 l5 ⊢
  generalize logK D (gen0 D) (D.q - 1) = LG at *
  generalize pwL D (gen0 D) (D.q - 1) = EX at *
  generalize D.q - 1 = Q1 at *
  simp only [List.drop_succ_cons, List.drop_zero] at l3 l4 l5
  simp [c1, c1', c2, c3, isNil, l3, l4, l5, u1, hk0, hk0', t1, u2, t2, hia, hld, u3, t3, hib, hlde]
  exact fin _ rfl
end Go.AM.Ytmihmgnjnedfcaa
