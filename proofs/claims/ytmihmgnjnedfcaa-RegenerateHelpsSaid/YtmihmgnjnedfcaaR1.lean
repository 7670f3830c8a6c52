/- Contracts of functions: the checks of a regenerating code. -/
import Derived.Test.YtmihmgnjnedfcaaF9
import Derived.Test.YtmihmgnjnedfcaaS1
set_option maxRecDepth 100000
set_option linter.unusedSimpArgs false
set_option linter.unusedVariables false
namespace Go.AM.Ytmihmgnjnedfcaa
open Go Go.AM
attribute [local simp ↓] awp_seq awp_reg awp_skip awp_cond awp_block awp_exit awp_ret awp_fz thenW_normal thenW_exit thenW_ret inBlk_normal inBlk_exit inBlk_ret aops_cons aops_nil e_mv e_guard e_pick e_ld e_app e_cpy e_st e_call callW_f updO_some updO_none e_bin e_isnil e_fadr e_iadr e_iarr e_len e_build e_mkf e_nc e_not e_neg e_cvt e_slc e_fld e_ext e_min e_eqs e_new e_box e_mkl e_mks
attribute [local simp] upd_apply ev_t ev_k ev_f binA_add binA_sub binA_mul binA_quo binA_rem binA_eql binA_neq binA_lss binA_leq binA_gtr binA_geq det mem frame0 keeps_nil iadrA_sl fadrA_ref fadrA_fp ldv_agg ldv_one cells_base hset_same hset_hset lenA_fs lenA_sl lenA_nils zeros_ints ints_length one_base one_nilp one_nils one_ref one_sl one_fp one_fs one_fn gl_one resA resOf bound natOf afill splice AV.cells cells_agg bindW_some condW_true condW_false condW_dec condW_ndec guardW_tup guardW_true guardW_true' guardW_false guardW_false' allocW_some pickA_true pickA_false
open Go.FM

theorem s_Entries {D : Ds} (r : Rg D) {mv v : AV} (hone : one mv = true) {l : List Int} (hv : IL v l) (hl : l.length < 4611686018427387904) :
    ∃ e : Int, (e = 0 ∨ e = 2) ∧ (e = 0 ↔ ∀ x ∈ l, D.R x) ∧ Pure prog n_ref09_Entries [.agg [I D.p, I D.m, mv], v] (I e) := by
  classical
  refine ⟨if ∀ x ∈ l, D.R x then 0 else 2, by split <;> simp, by split <;> simp_all, ?_⟩
  refine pure_of cf_ref09_Entries rfl fun h => ?_
  simp [hone]
  intro b2 hb2
  obtain ⟨l0, l1, l2, l3⟩ := ld3_at (hset_same h b2 [I D.p, I D.m, mv])
  have hkg : Kp h (hset h b2 [I D.p, I D.m, mv]) := (Kp.refl h).new hb2 _
  generalize hset h b2 [I D.p, I D.m, mv] = g at *
  refine awp_for l.length (fun k fr' h' => h' = g ∧ fr' 5 = I k ∧ ∀ x ∈ l.take k, D.R x) ⟨rfl, by simp, by simp⟩ ?_
  intro k fr' h' hkn hk ⟨hh, k5, hx⟩
  subst hh
  have k1 := hk 1 (by decide)
  have k2 := hk 2 (by decide)
  simp at k1 k2
  clear hk
  by_cases hlt : k < l.length
  · have hia := hv.iadr (i := k) ⟨by omega, by omega⟩
    simp at hia
    have hld := fun h' => ld_ints (h := h') hlt
    have hmem : l.getD k 0 ∈ l := by simp only [List.getD, List.getElem?_eq_getElem hlt, Option.getD_some]; exact List.getElem_mem hlt
    have htk : l.take (k + 1) = l.take k ++ [l.getD k 0] := by rw [List.take_succ_eq_append_getElem hlt]; simp [List.getD, hlt]
    rw [htk]
    generalize l.getD k 0 = y at *
    have u1 : IntKind.i64.wrap ((k : Int) + 1) = k + 1 := w64 _ (by omega)
    simp [k1, k2, k5, hv.len, hlt, hia, hld, l3]
    refine (s_refIs r hone y).call ?_
    by_cases c : 0 ≤ y ∧ y < D.q
    · rw [decide_eq_true c]
      simp [k5, u1, hlt]
      intro x hxx
      rcases hxx with hxx | rfl
      · exact hx x hxx
      · exact c
    · rw [decide_eq_false c]
      simp
      rw [if_neg fun hc => c (hc y hmem)]
      exact ⟨_, hkg.sub, .id _, rfl⟩
  · have : k = l.length := by omega
    subst this
    rw [List.take_length] at hx
    simp [k1, k5, hv.len]
    rw [if_pos hx]
    exact ⟨_, hkg.sub, .id _, rfl⟩

/-- A regenerating code, as the program has it. -/
structure Rc where
  p : Int
  m : Int
  mo : List Int
  kd : Int
  k : Int
  d : Int
  pts : List Int

/-- Its cells. -/
abbrev Rc.cells (R : Rc) (mv pv : AV) : List AV := [I R.p, I R.m, mv, I R.kd, I R.k, I R.d, pv]
abbrev Rc.D (R : Rc) : Ds := mkD R.p R.m R.mo

/-- The numbers fit. -/
def Rc.Num (R : Rc) : Prop := ¬ ((R.kd ≠ 0 ∧ R.kd ≠ 1) ∨ R.d < 1 ∨ (R.pts.length : Int) - 1 < R.d ∨ R.k < 1 ∨ R.d < R.k ∨ (R.kd = 1 ∧ R.d ≠ 2 * R.k - 2))

open Classical in
noncomputable def Rc.E (R : Rc) : Int :=
  if ¬ FieldP R.p R.m R.mo then 1 else if R.pts.length < 2 ∨ 64 < R.pts.length then 4 else if ¬ R.Num then 6 else if ¬ (∀ x ∈ R.pts, R.D.R x) then 2 else if ¬ R.pts.Nodup then 18 else
  if R.kd = 1 ∧ ¬ (R.pts.map fun x => R.D.pw x (R.k - 1).toNat).Nodup then 5 else 0

theorem ld7_at {h : Hp} {b : Nat} {x0 x1 x2 x3 x4 x5 x6 : AV} (hb : h b = some [x0, x1, x2, x3, x4, x5, x6]) : cellsAt h (.ref b 0) 3 = some [x0, x1, x2] ∧ cellsAt h (.ref b 3) 1 = some [x3] ∧ cellsAt h (.ref b 4) 1 = some [x4] ∧ cellsAt h (.ref b 5) 1 = some [x5] ∧ cellsAt h (.ref b 6) 1 = some [x6] ∧ cellsAt h (.ref b 0) 7 = some [x0, x1, x2, x3, x4, x5, x6] :=
  ⟨ld_at hb (by simp), ld_one_at hb (by simp), ld_one_at hb (by simp), ld_one_at hb (by simp), ld_one_at hb (by simp), ld_at hb (by simp)⟩

theorem FieldP.fd {p m : Int} {mo : List Int} (h : FieldP p m mo) : Fd (mkD p m mo) := ⟨h.1.rg, h.1.gen.1 h.2⟩

set_option maxHeartbeats 8000000 in
theorem s_regCheck {R : Rc} {mv pv : AV} (hmv : IL mv R.mo) (hml : R.mo.length < 4611686018427387904) (hpv : IL pv R.pts) (hpl : R.pts.length < 4611686018427387904) :
    Pure prog n_regenerate_Check [.agg (R.cells mv pv)] (I R.E) := by
  classical
  refine pure_of cf_regenerate_Check rfl fun h => ?_
  have hone := hmv.one
  have hone2 := hpv.one
  unfold c_regenerate_Check_0 c_regenerate_Check_1
  generalize hC2 : c_regenerate_Check_2 = C2
  simp [hone, hone2]
  intro b1 hb1
  obtain ⟨l0, l3, l4, l5, l6, l7⟩ := ld7_at (hset_same h b1 (R.cells mv pv))
  have hkg : Kp h (hset h b1 (R.cells mv pv)) := (Kp.refl h).new hb1 _
  have hg1 : (hset h b1 (R.cells mv pv)) b1 = some (R.cells mv pv) := hset_same ..
  generalize hset h b1 (R.cells mv pv) = g at *
  have fin : ∀ e, R.E = e → RetP h (I R.E) (I e) g := fun e he => he ▸ ⟨_, hkg.sub, .id _, rfl⟩
  simp [l0]
  refine (s_New R.p R.m hmv hml).call ?_
  subst hC2
  unfold c_regenerate_Check_2 c_regenerate_Check_3
  generalize hC4 : c_regenerate_Check_4 = C4
  unfold newR
  by_cases hf : FieldP R.p R.m R.mo
  case neg =>
    rw [if_neg hf]
    simp [l6, hpv.len]
    exact fin 1 (by rw [Rc.E, if_pos hf])
  rw [if_pos hf]
  have r := hf.fd
  have E1 : R.E = if R.pts.length < 2 ∨ 64 < R.pts.length then 4 else if ¬ R.Num then 6 else if ¬ (∀ x ∈ R.pts, R.D.R x) then 2 else if ¬ R.pts.Nodup then 18 else if R.kd = 1 ∧ ¬ (R.pts.map fun x => R.D.pw x (R.k - 1).toNat).Nodup then 5 else 0 := by
    rw [Rc.E, if_neg (by simpa using hf)]
  by_cases n1 : R.pts.length < 2
  · have n1' : (R.pts.length : Int) < 2 := by omega
    simp [l6, hpv.len, n1, n1']
    exact fin 4 (by rw [E1, if_pos (.inl n1)])
  have n1' : ¬ (R.pts.length : Int) < 2 := by omega
  by_cases n2 : 64 < R.pts.length
  · have n2' : 64 < (R.pts.length : Int) := by omega
    simp [l6, hpv.len, n1, n1', n2, n2']
    exact fin 4 (by rw [E1, if_pos (.inr n2)])
  have n2' : ¬ 64 < (R.pts.length : Int) := by omega
  have E2 := E1
  rw [if_neg (by omega)] at E2
  clear E1
  have bad6 : ¬ R.Num → RetP h (I R.E) (I 6) g := fun hn => fin 6 (by rw [E2, if_pos hn])
  have u0 : IntKind.i64.wrap ((R.pts.length : Int) - 1) = R.pts.length - 1 := w64 _ (by omega)
  by_cases q1 : R.kd ≠ 0 ∧ R.kd ≠ 1
  · simp [l3, l6, hpv.len, n1, n1', n2, n2', q1.1, q1.2]
    exact bad6 fun hn => hn (.inl q1)
  have kd01 : R.kd = 0 ∨ R.kd = 1 := by omega
  by_cases q2 : R.d < 1
  · rcases kd01 with kd | kd <;>
    (simp [l3, l5, l6, hpv.len, n1, n1', n2, n2', kd, q2]; exact bad6 fun hn => hn (.inr (.inl q2)))
  by_cases q3 : (R.pts.length : Int) - 1 < R.d
  · rcases kd01 with kd | kd <;>
    (simp [l3, l5, l6, hpv.len, n1, n1', n2, n2', kd, q2, u0, q3]; exact bad6 fun hn => hn (.inr (.inr (.inl q3))))
  by_cases q4 : R.k < 1
  · rcases kd01 with kd | kd <;>
    (simp [l3, l4, l5, l6, hpv.len, n1, n1', n2, n2', kd, q2, u0, q3, q4]; exact bad6 fun hn => hn (.inr (.inr (.inr (.inl q4)))))
  by_cases q5 : R.d < R.k
  · rcases kd01 with kd | kd <;>
    (simp [l3, l4, l5, l6, hpv.len, n1, n1', n2, n2', kd, q2, u0, q3, q4, q5]; exact bad6 fun hn => hn (.inr (.inr (.inr (.inr (.inl q5))))))
  have u5 : IntKind.i64.wrap (2 * R.k) = 2 * R.k := w64 _ (by omega)
  have u6 : IntKind.i64.wrap (2 * R.k - 2) = 2 * R.k - 2 := w64 _ (by omega)
  by_cases q6 : R.kd = 1 ∧ R.d ≠ 2 * R.k - 2
  · obtain ⟨kd, q6'⟩ := q6
    simp [l3, l4, l5, l6, hpv.len, n1, n1', n2, n2', kd, q2, u0, q3, q4, q5, u5, u6, q6']
    exact bad6 fun hn => hn (.inr (.inr (.inr (.inr (.inr ⟨kd, q6'⟩)))))
  have hN : R.Num := fun hc => by
    rcases hc with h1 | h1 | h1 | h1 | h1 | h1
    · exact q1 h1
    · exact q2 h1
    · exact q3 h1
    · exact q4 h1
    · exact q5 h1
    · exact q6 h1
  have E3 := E2
  rw [if_neg (by simpa using hN)] at E3
  clear E2 bad6
  have go : ∀ fr : Fr, fr 1 = .ref b1 0 → fr 3 = .fp (gfC R.D) → awp prog c_regenerate_Check_4 (fun e fr' h' => (e = .normal ∨ e = .ret) ∧ RetP h (I R.E) (fr' 2) h') fr g := by
    intro fr f1 f3
    clear hC4 C4
    have hmp : ∀ k, k < R.pts.length → R.pts.getD k 0 ∈ R.pts := fun k hk => by simp only [List.getD, List.getElem?_eq_getElem hk, Option.getD_some]; exact List.getElem_mem hk
    have htk : ∀ k, k < R.pts.length → R.pts.take (k + 1) = R.pts.take k ++ [R.pts.getD k 0] := fun k hk => by rw [List.take_succ_eq_append_getElem hk]; simp [List.getD, hk]
    simp [f1, l6, hpv.len]
    refine awp_for R.pts.length (fun k fr' h' => h' = g ∧ fr' 77 = I k ∧ ∀ x ∈ R.pts.take k, R.D.R x) ⟨rfl, by simp, by simp⟩ ?_
    intro k fr' h' hkn hk ⟨hh, k77, hx⟩
    subst hh
    have k1 := hk 1 (by decide)
    have k3 := hk 3 (by decide)
    have k75 := hk 75 (by decide)
    have k76 := hk 76 (by decide)
    simp [f1, f3] at k1 k3 k75 k76
    clear hk
    by_cases hlt : k < R.pts.length
    · have hia := hpv.iadr (i := k) ⟨by omega, by omega⟩
      simp at hia
      have hld := fun h' => ld_ints (h := h') hlt
      have hm := hmp k hlt
      rw [htk k hlt]
      generalize R.pts.getD k 0 = y at *
      have u1 : IntKind.i64.wrap ((k : Int) + 1) = k + 1 := w64 _ (by omega)
      simp [k3, k75, k76, k77, hlt, hia, hld]
      refine (s_Is r y).call ?_
      by_cases c : 0 ≤ y ∧ y < R.D.q
      · rw [decide_eq_true c]
        simp [k77, u1, hlt]
        intro x hxx
        rcases hxx with hxx | rfl
        · exact hx x hxx
        · exact c
      · rw [decide_eq_false c]
        simp
        exact fin 2 (by rw [E3, if_pos fun hc => c (hc y hm)])
    have : k = R.pts.length := by omega
    subst this
    rw [List.take_length] at hx
    have E4 := E3
    rw [if_neg (by simpa using hx)] at E4
    simp [k1, k76, k77, l6]
    refine (s_twice hpv hpl).call ?_
    by_cases hd : R.pts.Nodup
    case neg =>
      simp [hd]
      exact fin 18 (by rw [E4, if_pos hd])
    have E5 := E4
    rw [if_neg (by simpa using hd)] at E5
    by_cases kd : R.kd = 1
    case neg =>
      simp [hd, k1, l3, kd]
      exact fin 0 (by rw [E5, if_neg (fun hc => kd hc.1)])
    obtain ⟨kn, hkn2⟩ : ∃ n : Nat, R.k = n + 1 := ⟨(R.k - 1).toNat, by omega⟩
    have hkt : (R.k - 1).toNat = kn := by omega
    rw [hkt] at E5
    have ukn : IntKind.i64.wrap (R.k - 1) = kn := by rw [w64 _ (by omega)]; omega
    obtain ⟨L, hL⟩ : ∃ L : List Int, L = R.pts.map fun x => R.D.pw x kn := ⟨_, rfl⟩
    have hLl : L.length = R.pts.length := by rw [hL, List.length_map]
    have hLt : ∀ j, j < R.pts.length → L.take (j + 1) = L.take j ++ [R.D.pw (R.pts.getD j 0) kn] := fun j hj => by
      rw [List.take_succ_eq_append_getElem (by omega)]
      simp [hL, List.getD, hj]
    rw [← hL] at E5
    simp [hd, k1, l3, kd, l6, hpv.len]
    refine awp_for R.pts.length (fun j fr2 h2 => (∃ v, fr2 8 = v ∧ Own 1 h' h2 v j (ints (L.take j))) ∧ fr2 95 = I j) ⟨⟨.nils, by simp, by simpa [ints] using Own.nils 1 h'⟩, by simp⟩ ?_
    intro j fr2 h2 hjn hk2 ⟨⟨v8, k8, o⟩, k95⟩
    have m1 := hk2 1 (by decide)
    have m3 := hk2 3 (by decide)
    have m93 := hk2 93 (by decide)
    have m94 := hk2 94 (by decide)
    simp [k1, k3] at m1 m3 m93 m94
    clear hk2
    obtain ⟨p0, p3, p4, p5, p6, p7⟩ := ld7_at (o.rd hg1)
    by_cases hj : j < R.pts.length
    · have hia := hpv.iadr (i := j) ⟨by omega, by omega⟩
      simp at hia
      have hld := fun h' => ld_ints (h := h') hj
      rw [hLt j hj]
      clear hL hLt
      generalize R.pts.getD j 0 = y at *
      have u1 : IntKind.i64.wrap ((j : Int) + 1) = j + 1 := w64 _ (by omega)
      simp [m1, m3, m93, m94, k95, hj, hia, hld, p4, ukn]
      refine (s_Pow r y kn (by omega)).call ?_
      simp [k8]
      intro b hb
      refine o.app1 (m := 1) hb (by simp) (by omega) fun v' h3 o3 => ?_
      simp [k95, u1, hj]
      rw [ints_append]
      exact o3
    · have : j = R.pts.length := by omega
      subst this
      rw [List.take_of_length_le (by omega)] at o
      simp [k95, m94]
      refine Fz_own (g := h') (s := 8) k8 o (Kp.refl _) ?_
      have hgl := gil_IL L
      rw [gil, hLl] at hgl
      simp
      refine (s_twice hgl (by omega)).call ?_
      by_cases hd2 : L.Nodup
      · simp [hd2]
        exact fin 0 (by rw [E5, if_neg (fun hc => hc.2 hd2)])
      · simp [hd2]
        exact fin 5 (by rw [E5, if_pos ⟨kd, hd2⟩])
  rw [hC4] at go
  rcases kd01 with kd | kd
  · simp [l3, l4, l5, l6, hpv.len, n1, n1', n2, n2', kd, q2, u0, q3, q4, q5, u5, u6]
    exact go _ (by simp) (by simp)
  · have q6' : R.d = 2 * R.k - 2 := Classical.byContradiction fun hc => q6 ⟨kd, hc⟩
    have u7 : IntKind.i64.wrap R.d = R.d := w64 _ (by omega)
    simp [l3, l4, l5, l6, hpv.len, n1, n1', n2, n2', kd, q2, u0, q3, q4, q5, u5, u6, u7, ← q6']
    refine go _ ?_ ?_ <;> simp
end Go.AM.Ytmihmgnjnedfcaa
