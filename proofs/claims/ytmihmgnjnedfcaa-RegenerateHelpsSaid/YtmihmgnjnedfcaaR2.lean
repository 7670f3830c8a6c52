/- Contracts of functions: the reference's check of a regenerating code; sizes. -/
import Derived.Test.YtmihmgnjnedfcaaR1
set_option maxRecDepth 100000
set_option linter.unusedSimpArgs false
set_option linter.unusedVariables false
namespace Go.AM.Ytmihmgnjnedfcaa
open Go Go.AM
attribute [local simp ↓] awp_seq awp_reg awp_skip awp_cond awp_block awp_exit awp_ret awp_fz thenW_normal thenW_exit thenW_ret inBlk_normal inBlk_exit inBlk_ret aops_cons aops_nil e_mv e_guard e_pick e_ld e_app e_cpy e_st e_call callW_f updO_some updO_none e_bin e_isnil e_fadr e_iadr e_iarr e_len e_build e_mkf e_nc e_not e_neg e_cvt e_slc e_fld e_ext e_min e_eqs e_new e_box e_mkl e_mks
attribute [local simp] upd_apply ev_t ev_k ev_f binA_add binA_sub binA_mul binA_quo binA_rem binA_eql binA_neq binA_lss binA_leq binA_gtr binA_geq det mem frame0 keeps_nil iadrA_sl fadrA_ref fadrA_fp ldv_agg ldv_one cells_base hset_same hset_hset lenA_fs lenA_sl lenA_nils zeros_ints ints_length one_base one_nilp one_nils one_ref one_sl one_fp one_fs one_fn gl_one resA resOf bound natOf afill splice AV.cells cells_agg bindW_some condW_true condW_false condW_dec condW_ndec guardW_tup guardW_true guardW_true' guardW_false guardW_false' allocW_some pickA_true pickA_false
open Go.FM

theorem nodup_iff (L : List Int) : L.Nodup ↔ ∀ i j, j < i → i < L.length → L.getD i 0 ≠ L.getD j 0 := by
  rw [List.nodup_iff_pairwise_ne, List.pairwise_iff_getElem]
  constructor
  · intro h i j hji hi
    have := h j i (by omega) hi hji
    simp only [List.getD, List.getElem?_eq_getElem hi, List.getElem?_eq_getElem (show j < L.length by omega), Option.getD_some]
    exact fun hc => this hc.symm
  · intro h i j hi hj hij
    have := h j i hij hj
    simp only [List.getD, List.getElem?_eq_getElem hi, List.getElem?_eq_getElem hj, Option.getD_some] at this
    exact fun hc => this hc.symm

set_option maxHeartbeats 8000000 in
theorem s_refCheck52 {R : Rc} {mv pv : AV} (hmv : IL mv R.mo) (hml : R.mo.length < 4611686018427387904) (hpv : IL pv R.pts) (hpl : R.pts.length < 4611686018427387904) :
    Pure prog n_ref52_Check [.agg (R.cells mv pv)] (I R.E) := by
  classical
  refine pure_of cf_ref52_Check rfl fun h => ?_
  have hone := hmv.one
  have hone2 := hpv.one
  unfold c_ref52_Check_0 c_ref52_Check_1
  generalize hC2 : c_ref52_Check_2 = C2
  simp [hone, hone2]
  intro b1 hb1
  obtain ⟨l0, l3, l4, l5, l6, l7⟩ := ld7_at (hset_same h b1 (R.cells mv pv))
  have hkg : Kp h (hset h b1 (R.cells mv pv)) := (Kp.refl h).new hb1 _
  have hg1 : (hset h b1 (R.cells mv pv)) b1 = some (R.cells mv pv) := hset_same ..
  generalize hset h b1 (R.cells mv pv) = g at *
  have fin : ∀ e, R.E = e → RetP h (I R.E) (I e) g := fun e he => he ▸ ⟨_, hkg.sub, .id _, rfl⟩
  simp [l0]
  refine (s_refCheck R.p R.m hmv hml).call ?_
  subst hC2
  unfold c_ref52_Check_2 c_ref52_Check_3
  generalize hC4 : c_ref52_Check_4 = C4
  unfold fieldE
  by_cases hf : FieldP R.p R.m R.mo
  case neg =>
    rw [if_neg hf]
    simp
    exact fin 1 (by rw [Rc.E, if_pos hf])
  rw [if_pos hf]
  have r := hf.fd
  have E1 : R.E = if R.pts.length < 2 ∨ 64 < R.pts.length then 4 else if ¬ R.Num then 6 else if ¬ (∀ x ∈ R.pts, R.D.R x) then 2 else if ¬ R.pts.Nodup then 18 else if R.kd = 1 ∧ ¬ (R.pts.map fun x => R.D.pw x (R.k - 1).toNat).Nodup then 5 else 0 := by
    rw [Rc.E, if_neg (by simpa using hf)]
  by_cases n1 : R.pts.length < 2
  · have n1' : (R.pts.length : Int) < 2 := by omega
    simp [l6, hpv.len, n1, n1']
    exact fin 4 (by rw [E1, if_pos (.inl n1)])
  have n1' : ¬ (R.pts.length : Int) < 2 := by omega
  by_cases n2 : 64 < R.pts.length
  · have n2' : 64 < (R.pts.length : Int) := by omega
    simp [l6, hpv.len, n1, n1', n2, n2']
    exact fin 4 (by rw [E1, if_pos (.inr n2)])
  have n2' : ¬ 64 < (R.pts.length : Int) := by omega
  have E2 := E1
  rw [if_neg (by omega)] at E2
  clear E1
  simp [l6, hpv.len, n1, n1', n2, n2']
  subst hC4
  unfold c_ref52_Check_4 c_ref52_Check_5
  generalize hC6 : c_ref52_Check_6 = C6
  have bad6 : ¬ R.Num → RetP h (I R.E) (I 6) g := fun hn => fin 6 (by rw [E2, if_pos hn])
  have u0 : IntKind.i64.wrap ((R.pts.length : Int) - 1) = R.pts.length - 1 := w64 _ (by omega)
  by_cases q1 : R.kd ≠ 0 ∧ R.kd ≠ 1
  · simp [l3, q1.1, q1.2]
    exact bad6 fun hn => hn (.inl q1)
  have kd01 : R.kd = 0 ∨ R.kd = 1 := by omega
  by_cases q2 : R.d < 1
  · rcases kd01 with kd | kd <;>
    (simp [l3, l5, kd, q2]; exact bad6 fun hn => hn (.inr (.inl q2)))
  by_cases q3 : (R.pts.length : Int) - 1 < R.d
  · rcases kd01 with kd | kd <;>
    (simp [l3, l5, kd, q2, u0, q3]; exact bad6 fun hn => hn (.inr (.inr (.inl q3))))
  by_cases q4 : R.k < 1
  · rcases kd01 with kd | kd <;>
    (simp [l3, l4, l5, kd, q2, u0, q3, q4]; exact bad6 fun hn => hn (.inr (.inr (.inr (.inl q4)))))
  by_cases q5 : R.d < R.k
  · rcases kd01 with kd | kd <;>
    (simp [l3, l4, l5, kd, q2, u0, q3, q4, q5]; exact bad6 fun hn => hn (.inr (.inr (.inr (.inr (.inl q5))))))
  have u5 : IntKind.i64.wrap (2 * R.k) = 2 * R.k := w64 _ (by omega)
  have u6 : IntKind.i64.wrap (2 * R.k - 2) = 2 * R.k - 2 := w64 _ (by omega)
  by_cases q6 : R.kd = 1 ∧ R.d ≠ 2 * R.k - 2
  · obtain ⟨kd, q6'⟩ := q6
    simp [l3, l4, l5, kd, q2, u0, q3, q4, q5, u5, u6, q6']
    exact bad6 fun hn => hn (.inr (.inr (.inr (.inr (.inr ⟨kd, q6'⟩)))))
  have hN : R.Num := fun hc => by
    rcases hc with h1 | h1 | h1 | h1 | h1 | h1
    · exact q1 h1
    · exact q2 h1
    · exact q3 h1
    · exact q4 h1
    · exact q5 h1
    · exact q6 h1
  have E3 := E2
  rw [if_neg (by simpa using hN)] at E3
  clear E2 bad6
  have go : ∀ fr : Fr, fr 1 = .ref b1 0 → fr 3 = I (R.pts.length : Nat) → awp prog c_ref52_Check_6 (fun e fr' h' => (e = .normal ∨ e = .ret) ∧ RetP h (I R.E) (fr' 2) h') fr g := by
    intro fr f1 f3
    clear hC6 C6
    unfold c_ref52_Check_6
    generalize hC7 : c_ref52_Check_7 = C7
    obtain ⟨e, he1, he2, hP⟩ := s_Entries r.toRg hone hpv hpl
    rw [hf.1.dp, hf.1.dm] at hP
    simp [f1, l0, l6]
    refine hP.call ?_
    by_cases hx : ∀ x ∈ R.pts, R.D.R x
    case neg =>
      have : e = 2 := he1.resolve_left fun hc => hx (he2.1 hc)
      simp [this]
      exact fin 2 (by rw [E3, if_pos hx])
    have he0 := he2.2 hx
    subst he0
    have E4 := E3
    rw [if_neg (by simpa using hx)] at E4
    simp
    subst hC7
    unfold c_ref52_Check_7
    generalize hC8 : c_ref52_Check_8 = C8
    simp [f1, f3]
    refine awp_for R.pts.length (fun i fr' h' => h' = g ∧ fr' 4 = I i ∧ ∀ a b, b < a → a < i → R.pts.getD a 0 ≠ R.pts.getD b 0) ⟨rfl, by simp, fun a b h1 h2 => by omega⟩ ?_
    intro i fr1 h1 hin hk ⟨hh, k4, hz⟩
    subst hh
    have k1 := hk 1 (by decide)
    have k3 := hk 3 (by decide)
    simp [f1, f3] at k1 k3
    clear hk
    by_cases hi : i < R.pts.length
    · simp [k3, k4, hi]
      refine awp_for i (fun j fr' h' => h' = h1 ∧ fr' 5 = I j ∧ ∀ b, b < j → R.pts.getD i 0 ≠ R.pts.getD b 0) ⟨rfl, by simp, fun b h1 => by omega⟩ ?_
      intro j fr2 h2 hjn hk2 ⟨hh, k5, hz2⟩
      subst hh
      have m1 := hk2 1 (by decide)
      have m3 := hk2 3 (by decide)
      have m4 := hk2 4 (by decide)
      simp [k1, k3, k4] at m1 m3 m4
      clear hk2
      by_cases hj : j < i
      · have hjl : j < R.pts.length := by omega
        have hia := hpv.iadr (i := i) ⟨by omega, by omega⟩
        have hib := hpv.iadr (i := j) ⟨by omega, by omega⟩
        simp at hia hib
        have hlda := fun h' => ld_ints (h := h') hi
        have hldb := fun h' => ld_ints (h := h') hjl
        have hnd : R.pts.getD i 0 = R.pts.getD j 0 → ¬ R.pts.Nodup := fun hc hd => (nodup_iff _).1 hd i j hj hi hc
        have u1 : IntKind.i64.wrap ((j : Int) + 1) = j + 1 := w64 _ (by omega)
        have hz3 : R.pts.getD i 0 ≠ R.pts.getD j 0 → ∀ b, b < j + 1 → R.pts.getD i 0 ≠ R.pts.getD b 0 := fun hne b hb => by
          by_cases hbj : b = j
          · subst hbj; exact hne
          · exact hz2 b (by omega)
        by_cases hc : R.pts.getD i 0 = R.pts.getD j 0
        · have hE := hnd hc
          generalize R.pts.getD i 0 = y at *
          generalize R.pts.getD j 0 = z at *
          simp [m1, m4, k5, hj, l6, hia, hib, hlda, hldb, hc]
          exact fin 18 (by rw [E4, if_pos hE])
        · have hz4 := hz3 hc
          clear hz3 hnd
          generalize hyy : R.pts.getD i 0 = y at *
          generalize R.pts.getD j 0 = z at *
          simp [m1, m4, k5, hj, l6, hia, hib, hlda, hldb, hc, u1]
          simpa using hz4
      · have : j = i := by omega
        subst this
        have u1 : IntKind.i64.wrap ((j : Int) + 1) = j + 1 := w64 _ (by omega)
        simp [m4, k5, u1, hi]
        intro a b hba ha
        by_cases haj : a = j
        · subst haj; simpa using hz2 b hba
        · simpa using hz a b hba (by omega)
    have : i = R.pts.length := by omega
    subst this
    have hd : R.pts.Nodup := (nodup_iff _).2 fun a b h1 h2 => hz a b h1 h2
    have E5 := E4
    rw [if_neg (by simpa using hd)] at E5
    simp [k3, k4]
    subst hC8
    obtain ⟨kn, hkn2⟩ : ∃ n : Nat, R.k = n + 1 := ⟨(R.k - 1).toNat, by omega⟩
    have hkt : (R.k - 1).toNat = kn := by omega
    rw [hkt] at E5
    have ukn : IntKind.i64.wrap (R.k - 1) = kn := by rw [w64 _ (by omega)]; omega
    obtain ⟨L, hL⟩ : ∃ L : List Int, L = R.pts.map fun x => R.D.pw x kn := ⟨_, rfl⟩
    have hLl : L.length = R.pts.length := by rw [hL, List.length_map]
    have hLg : ∀ i, i < R.pts.length → L.getD i 0 = R.D.pw (R.pts.getD i 0) kn := fun i hi => by simp [hL, List.getD, hi]
    rw [← hL] at E5
    simp [k1, k3]
    refine awp_for R.pts.length (fun i fr' h' => h' = h1 ∧ fr' 6 = I i ∧ (R.kd = 1 → ∀ a b, b < a → a < i → L.getD a 0 ≠ L.getD b 0)) ⟨rfl, by simp, fun _ a b h1 h2 => by omega⟩ ?_
    clear hz k4 hin
    intro i fr2 h2 hin hk ⟨hh, k6, hz⟩
    subst hh
    have m1 := hk 1 (by decide)
    have m3 := hk 3 (by decide)
    simp [k1, k3] at m1 m3
    clear hk
    by_cases hi : i < R.pts.length
    · simp [m3, k6, hi]
      refine awp_for i (fun j fr' h' => h' = h2 ∧ fr' 7 = I j ∧ (R.kd = 1 → ∀ b, b < j → L.getD i 0 ≠ L.getD b 0)) ⟨rfl, by simp, fun _ b h1 => by omega⟩ ?_
      intro j fr3 h3 hjn hk2 ⟨hh, k7, hz2⟩
      subst hh
      have n1 := hk2 1 (by decide)
      have n3 := hk2 3 (by decide)
      have n6 := hk2 6 (by decide)
      simp [m1, m3, k6] at n1 n3 n6
      clear hk2
      have u1 : IntKind.i64.wrap ((j : Int) + 1) = j + 1 := w64 _ (by omega)
      by_cases hj : j < i
      · by_cases kd : R.kd = 1
        case neg =>
          simp [n1, n6, k7, hj, l3, kd, u1]
        have hjl : j < R.pts.length := by omega
        have hia := hpv.iadr (i := i) ⟨by omega, by omega⟩
        have hib := hpv.iadr (i := j) ⟨by omega, by omega⟩
        simp at hia hib
        have hlda := fun h' => ld_ints (h := h') hi
        have hldb := fun h' => ld_ints (h := h') hjl
        have hga := hLg i hi
        have hgb := hLg j hjl
        have hz2 := hz2 kd
        have hnd : L.getD i 0 = L.getD j 0 → ¬ L.Nodup := fun hc hd => (nodup_iff _).1 hd i j hj (by omega) hc
        have hz3 : L.getD i 0 ≠ L.getD j 0 → ∀ b, b < j + 1 → L.getD i 0 ≠ L.getD b 0 := fun hne b hb => by
          by_cases hbj : b = j
          · subst hbj; exact hne
          · exact hz2 b (by omega)
        generalize R.pts.getD i 0 = y at *
        generalize R.pts.getD j 0 = z at *
        simp [n1, n6, k7, hj, l0, l3, l4, l6, kd, hia, hib, hlda, hldb, ukn]
        have hp1 := s_power r hmv y kn (by omega)
        have hp2 := s_power r hmv z kn (by omega)
        rw [hf.1.dp, hf.1.dm] at hp1 hp2
        refine hp1.call ?_
        refine hp2.call ?_
        rw [hga, hgb] at hz3 hnd
        by_cases hc : R.D.pw y kn = R.D.pw z kn
        · simp [hc]
          exact fin 5 (by rw [E5, if_pos ⟨kd, hnd hc⟩])
        · have := hz3 hc
          rw [← hga] at this
          simp [hc, k7, u1, hj]
          simpa using this
      · have : j = i := by omega
        subst this
        simp [n6, k7, u1, hi]
        intro kd a b hba ha
        by_cases haj : a = j
        · subst haj; simpa using hz2 kd b hba
        · simpa using hz kd a b hba (by omega)
    · have : i = R.pts.length := by omega
      subst this
      simp [m3, k6]
      exact fin 0 (by rw [E5, if_neg (fun hc => hc.2 ((nodup_iff _).2 fun a b h1 h2 => hz hc.1 a b h1 (by omega)))])
  rw [hC6] at go
  rcases kd01 with kd | kd
  · simp [l3, l4, l5, kd, q2, u0, q3, q4, q5, u5, u6]
    refine go _ ?_ ?_ <;> simp
  · have q6' : R.d = 2 * R.k - 2 := Classical.byContradiction fun hc => q6 ⟨kd, hc⟩
    have u7 : IntKind.i64.wrap R.d = R.d := w64 _ (by omega)
    simp [l3, l4, l5, kd, q2, u0, q3, q4, q5, u5, u6, u7, ← q6']
    refine go _ ?_ ?_ <;> simp
end Go.AM.Ytmihmgnjnedfcaa
