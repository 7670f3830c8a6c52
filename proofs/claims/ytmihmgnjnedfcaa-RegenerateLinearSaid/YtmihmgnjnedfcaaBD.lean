import Derived.Test.YtmihmgnjnedfcaaBB
import Derived.Test.YtmihmgnjnedfcaaBZ
import Derived.Test.YtmihmgnjnedfcaaProg
import Derived.KernelRfl
import Derived.Test.YtmihmgnjnedfcaaBC

section
/- Contracts of functions: the reference's check of a regenerating code; sizes. -/
set_option maxRecDepth 100000
set_option linter.unusedSimpArgs false
set_option linter.unusedVariables false
namespace Go.AM.Ytmihmgnjnedfcaa
open Go Go.AM
attribute [local simp ↓] awp_seq awp_reg awp_skip awp_cond awp_block awp_exit awp_ret awp_fz thenW_normal thenW_exit thenW_ret inBlk_normal inBlk_exit inBlk_ret aops_cons aops_nil e_mv e_guard e_pick e_ld e_app e_cpy e_st e_call callW_f updO_some updO_none e_bin e_isnil e_fadr e_iadr e_iarr e_len e_build e_mkf e_nc e_not e_neg e_cvt e_slc e_fld e_ext e_min e_eqs e_new e_box e_mkl e_mks
attribute [local simp] upd_apply ev_t ev_k ev_f binA_add binA_sub binA_mul binA_quo binA_rem binA_eql binA_neq binA_lss binA_leq binA_gtr binA_geq det mem frame0 keeps_nil iadrA_sl fadrA_ref fadrA_fp ldv_agg ldv_one cells_base hset_same hset_hset lenA_fs lenA_sl lenA_nils zeros_ints ints_length one_base one_nilp one_nils one_ref one_sl one_fp one_fs one_fn gl_one resA resOf bound natOf afill splice AV.cells cells_agg bindW_some condW_true condW_false condW_dec condW_ndec guardW_tup guardW_true guardW_true' guardW_false guardW_false' allocW_some pickA_true pickA_false
open Go.FM

theorem nodup_iff (L : List Int) : L.Nodup ↔ ∀ i j, j < i → i < L.length → L.getD i 0 ≠ L.getD j 0 := by
  rw [List.nodup_iff_pairwise_ne, List.pairwise_iff_getElem]
  constructor
  · intro h i j hji hi
    have := h j i (by omega) hi hji
    simp only [List.getD, List.getElem?_eq_getElem hi, List.getElem?_eq_getElem (show j < L.length by omega), Option.getD_some]
    exact fun hc => this hc.symm
  · intro h i j hi hj hij
    have := h j i hij hj
    simp only [List.getD, List.getElem?_eq_getElem hi, List.getElem?_eq_getElem hj, Option.getD_some] at this
    exact fun hc => this hc.symm

set_option maxHeartbeats 8000000 in
theorem s_refCheck52 {R : Rc} {mv pv : AV} (hmv : IL mv R.mo) (hml : R.mo.length < 4611686018427387904) (hpv : IL pv R.pts) (hpl : R.pts.length < 4611686018427387904) :
    Pure prog n_ref52_Check [.agg (R.cells mv pv)] (I R.E) := by
  classical
  refine pure_of cf_ref52_Check rfl fun h => ?_
  have hone := hmv.one
  have hone2 := hpv.one
  unfold c_ref52_Check_0 c_ref52_Check_1
  generalize hC2 : c_ref52_Check_2 = C2
  simp [hone, hone2]
  intro b1 hb1
  obtain ⟨l0, l3, l4, l5, l6, l7⟩ := ld7_at (hset_same h b1 (R.cells mv pv))
  have hkg : Kp h (hset h b1 (R.cells mv pv)) := (Kp.refl h).new hb1 _
  have hg1 : (hset h b1 (R.cells mv pv)) b1 = some (R.cells mv pv) := hset_same ..
  generalize hset h b1 (R.cells mv pv) = g at *
  have fin : ∀ e, R.E = e → RetP h (I R.E) (I e) g := fun e he => he ▸ ⟨_, hkg.sub, .id _, rfl⟩
  simp [l0]
  refine (s_refCheck R.p R.m hmv hml).call ?_
  subst hC2
  unfold c_ref52_Check_2 c_ref52_Check_3
  generalize hC4 : c_ref52_Check_4 = C4
  unfold fieldE
  by_cases hf : FieldP R.p R.m R.mo
  case neg =>
    rw [if_neg hf]
    simp
    exact fin 1 (by rw [Rc.E, if_pos hf])
  rw [if_pos hf]
  have r := hf.fd
  have E1 : R.E = if R.pts.length < 2 ∨ 64 < R.pts.length then 4 else if ¬ R.Num then 6 else if ¬ (∀ x ∈ R.pts, R.D.R x) then 2 else if ¬ R.pts.Nodup then 18 else if R.kd = 1 ∧ ¬ (R.pts.map fun x => R.D.pw x (R.k - 1).toNat).Nodup then 5 else 0 := by
    rw [Rc.E, if_neg (by simpa using hf)]
  by_cases n1 : R.pts.length < 2
  · have n1' : (R.pts.length : Int) < 2 := by omega
    simp [l6, hpv.len, n1, n1']
    exact fin 4 (by rw [E1, if_pos (.inl n1)])
  have n1' : ¬ (R.pts.length : Int) < 2 := by omega
  by_cases n2 : 64 < R.pts.length
  · have n2' : 64 < (R.pts.length : Int) := by omega
    simp [l6, hpv.len, n1, n1', n2, n2']
    exact fin 4 (by rw [E1, if_pos (.inr n2)])
  have n2' : ¬ 64 < (R.pts.length : Int) := by omega
  have E2 := E1
  rw [if_neg (by omega)] at E2
  clear E1
  simp [l6, hpv.len, n1, n1', n2, n2']
  subst hC4
  unfold c_ref52_Check_4 c_ref52_Check_5
  generalize hC6 : c_ref52_Check_6 = C6
  have bad6 : ¬ R.Num → RetP h (I R.E) (I 6) g := fun hn => fin 6 (by rw [E2, if_pos hn])
  have u0 : IntKind.i64.wrap ((R.pts.length : Int) - 1) = R.pts.length - 1 := w64 _ (by omega)
  by_cases q1 : R.kd ≠ 0 ∧ R.kd ≠ 1
  · simp [l3, q1.1, q1.2]
    exact bad6 fun hn => hn (.inl q1)
  have kd01 : R.kd = 0 ∨ R.kd = 1 := by omega
  by_cases q2 : R.d < 1
  · rcases kd01 with kd | kd <;>
    (simp [l3, l5, kd, q2]; exact bad6 fun hn => hn (.inr (.inl q2)))
  by_cases q3 : (R.pts.length : Int) - 1 < R.d
  · rcases kd01 with kd | kd <;>
    (simp [l3, l5, kd, q2, u0, q3]; exact bad6 fun hn => hn (.inr (.inr (.inl q3))))
  by_cases q4 : R.k < 1
  · rcases kd01 with kd | kd <;>
    (simp [l3, l4, l5, kd, q2, u0, q3, q4]; exact bad6 fun hn => hn (.inr (.inr (.inr (.inl q4)))))
  by_cases q5 : R.d < R.k
  · rcases kd01 with kd | kd <;>
    (simp [l3, l4, l5, kd, q2, u0, q3, q4, q5]; exact bad6 fun hn => hn (.inr (.inr (.inr (.inr (.inl q5))))))
  have u5 : IntKind.i64.wrap (2 * R.k) = 2 * R.k := w64 _ (by omega)
  have u6 : IntKind.i64.wrap (2 * R.k - 2) = 2 * R.k - 2 := w64 _ (by omega)
  by_cases q6 : R.kd = 1 ∧ R.d ≠ 2 * R.k - 2
  · obtain ⟨kd, q6'⟩ := q6
    simp [l3, l4, l5, kd, q2, u0, q3, q4, q5, u5, u6, q6']
    exact bad6 fun hn => hn (.inr (.inr (.inr (.inr (.inr ⟨kd, q6'⟩)))))
  have hN : R.Num := fun hc => by
    rcases hc with h1 | h1 | h1 | h1 | h1 | h1
    · exact q1 h1
    · exact q2 h1
    · exact q3 h1
    · exact q4 h1
    · exact q5 h1
    · exact q6 h1
  have E3 := E2
  rw [if_neg (by simpa using hN)] at E3
  clear E2 bad6
  have go : ∀ fr : Fr, fr 1 = .ref b1 0 → fr 3 = I (R.pts.length : Nat) → awp prog c_ref52_Check_6 (fun e fr' h' => (e = .normal ∨ e = .ret) ∧ RetP h (I R.E) (fr' 2) h') fr g := by
    intro fr f1 f3
    clear hC6 C6
    unfold c_ref52_Check_6
    generalize hC7 : c_ref52_Check_7 = C7
    obtain ⟨e, he1, he2, hP⟩ := s_Entries r.toRg hone hpv hpl
    rw [hf.1.dp, hf.1.dm] at hP
    simp [f1, l0, l6]
    refine hP.call ?_
    by_cases hx : ∀ x ∈ R.pts, R.D.R x
    case neg =>
      have : e = 2 := he1.resolve_left fun hc => hx (he2.1 hc)
      simp [this]
      exact fin 2 (by rw [E3, if_pos hx])
    have he0 := he2.2 hx
    subst he0
    have E4 := E3
    rw [if_neg (by simpa using hx)] at E4
    simp
    subst hC7
    unfold c_ref52_Check_7
    generalize hC8 : c_ref52_Check_8 = C8
    simp [f1, f3]
    refine awp_for R.pts.length (fun i fr' h' => h' = g ∧ fr' 4 = I i ∧ ∀ a b, b < a → a < i → R.pts.getD a 0 ≠ R.pts.getD b 0) ⟨rfl, by simp, fun a b h1 h2 => by omega⟩ ?_
    intro i fr1 h1 hin hk ⟨hh, k4, hz⟩
    subst hh
    have k1 := hk 1 (by decide)
    have k3 := hk 3 (by decide)
    simp [f1, f3] at k1 k3
    clear hk
    by_cases hi : i < R.pts.length
    · simp [k3, k4, hi]
      refine awp_for i (fun j fr' h' => h' = h1 ∧ fr' 5 = I j ∧ ∀ b, b < j → R.pts.getD i 0 ≠ R.pts.getD b 0) ⟨rfl, by simp, fun b h1 => by omega⟩ ?_
      intro j fr2 h2 hjn hk2 ⟨hh, k5, hz2⟩
      subst hh
      have m1 := hk2 1 (by decide)
      have m3 := hk2 3 (by decide)
      have m4 := hk2 4 (by decide)
      simp [k1, k3, k4] at m1 m3 m4
      clear hk2
      by_cases hj : j < i
      · have hjl : j < R.pts.length := by omega
        have hia := hpv.iadr (i := i) ⟨by omega, by omega⟩
        have hib := hpv.iadr (i := j) ⟨by omega, by omega⟩
        simp at hia hib
        have hlda := fun h' => ld_ints (h := h') hi
        have hldb := fun h' => ld_ints (h := h') hjl
        have hnd : R.pts.getD i 0 = R.pts.getD j 0 → ¬ R.pts.Nodup := fun hc hd => (nodup_iff _).1 hd i j hj hi hc
        have u1 : IntKind.i64.wrap ((j : Int) + 1) = j + 1 := w64 _ (by omega)
        have hz3 : R.pts.getD i 0 ≠ R.pts.getD j 0 → ∀ b, b < j + 1 → R.pts.getD i 0 ≠ R.pts.getD b 0 := fun hne b hb => by
          by_cases hbj : b = j
          · subst hbj; exact hne
          · exact hz2 b (by omega)
        by_cases hc : R.pts.getD i 0 = R.pts.getD j 0
        · have hE := hnd hc
          generalize R.pts.getD i 0 = y at *
          generalize R.pts.getD j 0 = z at *
          simp [m1, m4, k5, hj, l6, hia, hib, hlda, hldb, hc]
          exact fin 18 (by rw [E4, if_pos hE])
        · have hz4 := hz3 hc
          clear hz3 hnd
          generalize hyy : R.pts.getD i 0 = y at *
          generalize R.pts.getD j 0 = z at *
          simp [m1, m4, k5, hj, l6, hia, hib, hlda, hldb, hc, u1]
          simpa using hz4
      · have : j = i := by omega
        subst this
        have u1 : IntKind.i64.wrap ((j : Int) + 1) = j + 1 := w64 _ (by omega)
        simp [m4, k5, u1, hi]
        intro a b hba ha
        by_cases haj : a = j
        · subst haj; simpa using hz2 b hba
        · simpa using hz a b hba (by omega)
    have : i = R.pts.length := by omega
    subst this
    have hd : R.pts.Nodup := (nodup_iff _).2 fun a b h1 h2 => hz a b h1 h2
    have E5 := E4
    rw [if_neg (by simpa using hd)] at E5
    simp [k3, k4]
    subst hC8
    obtain ⟨kn, hkn2⟩ : ∃ n : Nat, R.k = n + 1 := ⟨(R.k - 1).toNat, by omega⟩
    have hkt : (R.k - 1).toNat = kn := by omega
    rw [hkt] at E5
    have ukn : IntKind.i64.wrap (R.k - 1) = kn := by rw [w64 _ (by omega)]; omega
    obtain ⟨L, hL⟩ : ∃ L : List Int, L = R.pts.map fun x => R.D.pw x kn := ⟨_, rfl⟩
    have hLl : L.length = R.pts.length := by rw [hL, List.length_map]
    have hLg : ∀ i, i < R.pts.length → L.getD i 0 = R.D.pw (R.pts.getD i 0) kn := fun i hi => by simp [hL, List.getD, hi]
    rw [← hL] at E5
    simp [k1, k3]
    refine awp_for R.pts.length (fun i fr' h' => h' = h1 ∧ fr' 6 = I i ∧ (R.kd = 1 → ∀ a b, b < a → a < i → L.getD a 0 ≠ L.getD b 0)) ⟨rfl, by simp, fun _ a b h1 h2 => by omega⟩ ?_
    clear hz k4 hin
    intro i fr2 h2 hin hk ⟨hh, k6, hz⟩
    subst hh
    have m1 := hk 1 (by decide)
    have m3 := hk 3 (by decide)
    simp [k1, k3] at m1 m3
    clear hk
    by_cases hi : i < R.pts.length
    · simp [m3, k6, hi]
      refine awp_for i (fun j fr' h' => h' = h2 ∧ fr' 7 = I j ∧ (R.kd = 1 → ∀ b, b < j → L.getD i 0 ≠ L.getD b 0)) ⟨rfl, by simp, fun _ b h1 => by omega⟩ ?_
      intro j fr3 h3 hjn hk2 ⟨hh, k7, hz2⟩
      subst hh
      have n1 := hk2 1 (by decide)
      have n3 := hk2 3 (by decide)
      have n6 := hk2 6 (by decide)
      simp [m1, m3, k6] at n1 n3 n6
      clear hk2
      have u1 : IntKind.i64.wrap ((j : Int) + 1) = j + 1 := w64 _ (by omega)
      by_cases hj : j < i
      · by_cases kd : R.kd = 1
        case neg =>
          simp [n1, n6, k7, hj, l3, kd, u1]
        have hjl : j < R.pts.length := by omega
        have hia := hpv.iadr (i := i) ⟨by omega, by omega⟩
        have hib := hpv.iadr (i := j) ⟨by omega, by omega⟩
        simp at hia hib
        have hlda := fun h' => ld_ints (h := h') hi
        have hldb := fun h' => ld_ints (h := h') hjl
        have hga := hLg i hi
        have hgb := hLg j hjl
        have hz2 := hz2 kd
        have hnd : L.getD i 0 = L.getD j 0 → ¬ L.Nodup := fun hc hd => (nodup_iff _).1 hd i j hj (by omega) hc
        have hz3 : L.getD i 0 ≠ L.getD j 0 → ∀ b, b < j + 1 → L.getD i 0 ≠ L.getD b 0 := fun hne b hb => by
          by_cases hbj : b = j
          · subst hbj; exact hne
          · exact hz2 b (by omega)
        generalize R.pts.getD i 0 = y at *
        generalize R.pts.getD j 0 = z at *
        simp [n1, n6, k7, hj, l0, l3, l4, l6, kd, hia, hib, hlda, hldb, ukn]
        have hp1 := s_power r hmv y kn (by omega)
        have hp2 := s_power r hmv z kn (by omega)
        rw [hf.1.dp, hf.1.dm] at hp1 hp2
        refine hp1.call ?_
        refine hp2.call ?_
        rw [hga, hgb] at hz3 hnd
        by_cases hc : R.D.pw y kn = R.D.pw z kn
        · simp [hc]
          exact fin 5 (by rw [E5, if_pos ⟨kd, hnd hc⟩])
        · have := hz3 hc
          rw [← hga] at this
          simp [hc, k7, u1, hj]
          simpa using this
      · have : j = i := by omega
        subst this
        simp [n6, k7, u1, hi]
        intro kd a b hba ha
        by_cases haj : a = j
        · subst haj; simpa using hz2 kd b hba
        · simpa using hz kd a b hba (by omega)
    · have : i = R.pts.length := by omega
      subst this
      simp [m3, k6]
      exact fin 0 (by rw [E5, if_neg (fun hc => hc.2 ((nodup_iff _).2 fun a b h1 h2 => hz hc.1 a b h1 (by omega)))])
  rw [hC6] at go
  rcases kd01 with kd | kd
  · simp [l3, l4, l5, kd, q2, u0, q3, q4, q5, u5, u6]
    refine go _ ?_ ?_ <;> simp
  · have q6' : R.d = 2 * R.k - 2 := Classical.byContradiction fun hc => q6 ⟨kd, hc⟩
    have u7 : IntKind.i64.wrap R.d = R.d := w64 _ (by omega)
    simp [l3, l4, l5, kd, q2, u0, q3, q4, q5, u5, u6, u7, ← q6']
    refine go _ ?_ ?_ <;> simp
end Go.AM.Ytmihmgnjnedfcaa
end

section
/- Contracts of functions: sizes, and the law of the checks. -/
set_option maxRecDepth 100000
set_option linter.unusedSimpArgs false
set_option linter.unusedVariables false
namespace Go.AM.Ytmihmgnjnedfcaa
open Go Go.AM
attribute [local simp ↓] awp_seq awp_reg awp_skip awp_cond awp_block awp_exit awp_ret awp_fz thenW_normal thenW_exit thenW_ret inBlk_normal inBlk_exit inBlk_ret aops_cons aops_nil e_mv e_guard e_pick e_ld e_app e_cpy e_st e_call callW_f updO_some updO_none e_bin e_isnil e_fadr e_iadr e_iarr e_len e_build e_mkf e_nc e_not e_neg e_cvt e_slc e_fld e_ext e_min e_eqs e_new e_box e_mkl e_mks
attribute [local simp] upd_apply ev_t ev_k ev_f binA_add binA_sub binA_mul binA_quo binA_rem binA_eql binA_neq binA_lss binA_leq binA_gtr binA_geq det mem frame0 keeps_nil iadrA_sl fadrA_ref fadrA_fp ldv_agg ldv_one cells_base hset_same hset_hset lenA_fs lenA_sl lenA_nils zeros_ints ints_length one_base one_nilp one_nils one_ref one_sl one_fp one_fs one_fn gl_one resA resOf bound natOf afill splice AV.cells cells_agg bindW_some condW_true condW_false condW_dec condW_ndec guardW_tup guardW_true guardW_true' guardW_false guardW_false' allocW_some pickA_true pickA_false
open Go.FM

structure Rc.Okn (R : Rc) : Prop where
  kd : R.kd = 0 ∨ R.kd = 1
  k1 : 1 ≤ R.k
  kd2 : R.k ≤ R.d
  d : R.d ≤ 63
  st : R.kd = 1 → R.d = 2 * R.k - 2

theorem Rc.E0 {R : Rc} (h : R.E = 0) : FieldP R.p R.m R.mo ∧ 2 ≤ R.pts.length ∧ R.pts.length ≤ 64 ∧ R.Okn ∧ R.d < R.pts.length ∧ (∀ x ∈ R.pts, R.D.R x) ∧ R.pts.Nodup ∧ (R.kd = 1 → (R.pts.map fun x => R.D.pw x (R.k - 1).toNat).Nodup) := by
  classical
  unfold Rc.E at h
  split at h
  · omega
  rename_i h1
  split at h
  · omega
  rename_i h2
  split at h
  · omega
  rename_i h3
  split at h
  · omega
  rename_i h4
  split at h
  · omega
  rename_i h5
  split at h
  · omega
  rename_i h6
  have h3' : R.Num := Classical.byContradiction fun hc => h3 hc
  have h3'' : ¬((R.kd ≠ 0 ∧ R.kd ≠ 1) ∨ R.d < 1 ∨ (R.pts.length : Int) - 1 < R.d ∨ R.k < 1 ∨ R.d < R.k ∨ (R.kd = 1 ∧ R.d ≠ 2 * R.k - 2)) := h3'
  refine ⟨Classical.byContradiction fun hc => h1 hc, by omega, by omega, ⟨by omega, by omega, by omega, by omega, by omega⟩, by omega, Classical.byContradiction fun hc => h4 hc, Classical.byContradiction fun hc => h5 hc, fun hk => Classical.byContradiction fun hc => h6 ⟨hk, hc⟩⟩

/-- The sizes of a file and of a content. -/
def Rc.szF (R : Rc) : Int := if R.kd = 1 then R.k * (R.k - 1) else R.k * R.d - R.k * (R.k - 1) / 2
def Rc.szN (R : Rc) : Int := if R.kd = 1 then R.k - 1 else R.d

theorem Rc.Okn.bd {R : Rc} (o : R.Okn) : 0 ≤ R.k * (R.k - 1) ∧ R.k * (R.k - 1) ≤ 64 * 64 ∧ 0 ≤ R.k * R.d ∧ R.k * R.d ≤ 64 * 64 := by
  have h1 := o.k1
  have h2 := o.kd2
  have h3 := o.d
  exact ⟨Int.mul_nonneg (by omega) (by omega), Int.mul_le_mul (by omega) (by omega) (by omega) (by omega), Int.mul_nonneg (by omega) (by omega), Int.mul_le_mul (by omega) (by omega) (by omega) (by omega)⟩

theorem s_sizes {R : Rc} (o : R.Okn) {mv pv : AV} (hone : one mv = true) (hone2 : one pv = true) : Pure prog n_regenerate_sizes [.agg (R.cells mv pv)] (.tup [I R.szF, I R.szN]) := by
  refine pure_of cf_regenerate_sizes rfl fun h => ?_
  simp [hone, hone2]
  intro b1 hb1
  obtain ⟨l0, l3, l4, l5, l6, l7⟩ := ld7_at (hset_same h b1 (R.cells mv pv))
  have hkg : Kp h (hset h b1 (R.cells mv pv)) := (Kp.refl h).new hb1 _
  generalize hset h b1 (R.cells mv pv) = g at *
  obtain ⟨b1', b2, b3, b4⟩ := o.bd
  have h1 := o.k1
  have h2 := o.kd2
  have h3 := o.d
  have u1 : IntKind.i64.wrap (R.k - 1) = R.k - 1 := w64 _ (by omega)
  unfold Rc.szF Rc.szN
  generalize hm1 : R.k * (R.k - 1) = m1 at *
  generalize hm2 : R.k * R.d = m2 at *
  have u2 : IntKind.i64.wrap m1 = m1 := w64 _ (by omega)
  have u3 : IntKind.i64.wrap m2 = m2 := w64 _ (by omega)
  have t1 : m1.tdiv 2 = m1 / 2 := Int.tdiv_eq_ediv_of_nonneg (by omega)
  have u4 : IntKind.i64.wrap (m1 / 2) = m1 / 2 := w64 _ (by omega)
  have u5 : IntKind.i64.wrap (m2 - m1 / 2) = m2 - m1 / 2 := w64 _ (by omega)
  by_cases kd : R.kd = 1
  · simp [l3, l4, kd, u1, hm1, u2]
    exact ⟨_, hkg.sub, .id _, rfl⟩
  · simp [l3, l4, l5, kd, u1, hm1, hm2, u2, u3, t1, u4, u5]
    exact ⟨_, hkg.sub, .id _, rfl⟩

theorem s_refSize {R : Rc} (o : R.Okn) {mv pv : AV} (hone : one mv = true) (hone2 : one pv = true) : Pure prog n_ref52_Size [.agg (R.cells mv pv)] (.tup [I R.szF, I R.szN]) := by
  refine pure_of cf_ref52_Size rfl fun h => ?_
  simp [hone, hone2]
  intro b1 hb1
  obtain ⟨l0, l3, l4, l5, l6, l7⟩ := ld7_at (hset_same h b1 (R.cells mv pv))
  have hkg : Kp h (hset h b1 (R.cells mv pv)) := (Kp.refl h).new hb1 _
  generalize hset h b1 (R.cells mv pv) = g at *
  obtain ⟨b1', b2, b3, b4⟩ := o.bd
  have h1 := o.k1
  have h2 := o.kd2
  have h3 := o.d
  have u1 : IntKind.i64.wrap (R.k - 1) = R.k - 1 := w64 _ (by omega)
  unfold Rc.szF Rc.szN
  generalize hm1 : R.k * (R.k - 1) = m1 at *
  generalize hm2 : R.k * R.d = m2 at *
  have u2 : IntKind.i64.wrap m1 = m1 := w64 _ (by omega)
  have u3 : IntKind.i64.wrap m2 = m2 := w64 _ (by omega)
  have t1 : m1.tdiv 2 = m1 / 2 := Int.tdiv_eq_ediv_of_nonneg (by omega)
  have u4 : IntKind.i64.wrap (m1 / 2) = m1 / 2 := w64 _ (by omega)
  have u5 : IntKind.i64.wrap (m2 - m1 / 2) = m2 - m1 / 2 := w64 _ (by omega)
  rcases o.kd with kd | kd
  · simp [l3, l4, l5, kd, u1, hm1, hm2, u2, u3, t1, u4, u5]
    exact ⟨_, hkg.sub, .id _, rfl⟩
  · simp [l3, l4, kd, u1, hm1, u2]
    exact ⟨_, hkg.sub, .id _, rfl⟩

/-- What Size gives. -/
def sizeR (e f n : Int) : AV := if e = 0 then .tup [I f, I n, I 0] else .tup [I 0, I 0, I e]

theorem s_Size {R : Rc} {mv pv : AV} (hmv : IL mv R.mo) (hml : R.mo.length < 4611686018427387904) (hpv : IL pv R.pts) (hpl : R.pts.length < 4611686018427387904) :
    Pure prog n_regenerate_Size [.agg (R.cells mv pv)] (sizeR R.E R.szF R.szN) := by
  refine pure_of cf_regenerate_Size rfl fun h => ?_
  have hone := hmv.one
  have hone2 := hpv.one
  simp [hone, hone2]
  intro b1 hb1
  obtain ⟨l0, l3, l4, l5, l6, l7⟩ := ld7_at (hset_same h b1 (R.cells mv pv))
  have hkg : Kp h (hset h b1 (R.cells mv pv)) := (Kp.refl h).new hb1 _
  generalize hset h b1 (R.cells mv pv) = g at *
  simp [l7]
  refine (s_regCheck hmv hml hpv hpl).call ?_
  unfold sizeR
  by_cases hE : R.E = 0
  · rw [if_pos hE, hE]
    simp [l7]
    refine (s_sizes (Rc.E0 hE).2.2.2.1 hone hone2).call ?_
    simp
    exact ⟨_, hkg.sub, .id _, rfl⟩
  · rw [if_neg hE]
    simp [hE]
    exact ⟨_, hkg.sub, .id _, rfl⟩

theorem s_RegenerateChecks {R : Rc} {mv pv : AV} (hmv : IL mv R.mo) (hml : R.mo.length < 4611686018427387904) (hpv : IL pv R.pts) (hpl : R.pts.length < 4611686018427387904) :
    Pure prog n_law52_RegenerateChecks [.agg (R.cells mv pv)] (B true) := by
  refine pure_of cf_law52_RegenerateChecks rfl fun h => ?_
  have hone := hmv.one
  have hone2 := hpv.one
  unfold c_law52_RegenerateChecks_0 c_law52_RegenerateChecks_1
  generalize hC2 : c_law52_RegenerateChecks_2 = C2
  simp [hone, hone2]
  intro b1 hb1
  obtain ⟨l0, l3, l4, l5, l6, l7⟩ := ld7_at (hset_same h b1 (R.cells mv pv))
  have hkg : Kp h (hset h b1 (R.cells mv pv)) := (Kp.refl h).new hb1 _
  generalize hset h b1 (R.cells mv pv) = g at *
  have fin : RetP h (B true) (B true) g := ⟨_, hkg.sub, .id _, rfl⟩
  by_cases n1 : 80 < R.pts.length
  · have n1' : 80 < (R.pts.length : Int) := by omega
    simp [l6, hpv.len, n1, n1']
    exact fin
  have n1' : ¬ 80 < (R.pts.length : Int) := by omega
  simp [l6, hpv.len, n1, n1']
  subst hC2
  unfold c_law52_RegenerateChecks_2 c_law52_RegenerateChecks_3
  generalize hC4 : c_law52_RegenerateChecks_4 = C4
  simp [l7]
  refine (s_Size hmv hml hpv hpl).call ?_
  unfold sizeR
  by_cases hE : R.E = 0
  · rw [if_pos hE]
    simp [l7]
    refine (s_refCheck52 hmv hml hpv hpl).call ?_
    subst hC4
    unfold c_law52_RegenerateChecks_4 c_law52_RegenerateChecks_5
    generalize hC6 : c_law52_RegenerateChecks_6 = C6
    rw [hE]
    simp [l7]
    refine (s_refSize (Rc.E0 hE).2.2.2.1 hone hone2).call ?_
    subst hC6
    simp [l7]
    refine (s_regCheck hmv hml hpv hpl).call ?_
    rw [hE]
    simp
    exact fin
  · rw [if_neg hE]
    simp [l7]
    refine (s_refCheck52 hmv hml hpv hpl).call ?_
    subst hC4
    unfold c_law52_RegenerateChecks_4
    generalize hC5 : c_law52_RegenerateChecks_5 = C5
    simp [hE, l7]
    refine (s_regCheck hmv hml hpv hpl).call ?_
    simp [hE]
    exact fin
end Go.AM.Ytmihmgnjnedfcaa
end

section
/- How the arguments of the laws about regenerating codes are opened. -/
namespace Go.AM.Ytmihmgnjnedfcaa
open Go Go.AM Go.ChangeShapes
set_option linter.unusedVariables false
set_option maxRecDepth 100000
set_option linter.unusedSimpArgs false
open Go.Proofs

theorem c3 : Try.prog.cellsOf 3 = 1 := by kernel_rfl
theorem b3 : 0 < Try.prog.bytesOf 3 := of_decide_eq_true (by kernel_rfl)

/-- A field's description, opened. -/
theorem open_field {n : Nat} {avs : List AV} (h : OpenT Try.prog (n + 3) 51 avs) : ∃ (p m : Int) (mv : AV) (mo : List Int), avs = [I p, I m, mv] ∧ IL mv mo ∧ mo.length < 4611686018427387904 := by
  obtain ⟨l0, l1, l2, rfl, h0, h1, h2⟩ := OpenT.struct3 Try.underlying51 h
  obtain ⟨p, rfl, _⟩ := OpenT.int Try.underlying3 h0
  obtain ⟨m, rfl, _⟩ := OpenT.int Try.underlying3 h1
  obtain ⟨mv, mo, rfl, g1, g2, _⟩ := OpenT.ints Try.underlying29 Try.underlying3 c3 b3 h2
  exact ⟨p, m, mv, mo, rfl, g1, g2⟩

/-- A regenerating code, opened. -/
theorem open_regen {n : Nat} {avs : List AV} (h : OpenT Try.prog (n + 4) 53 avs) : ∃ (R : Rc) (mv pv : AV), avs = R.cells mv pv ∧ IL mv R.mo ∧ R.mo.length < 4611686018427387904 ∧ IL pv R.pts ∧ R.pts.length < 4611686018427387904 := by
  obtain ⟨l0, l1, l2, l3, l4, rfl, h0, h1, h2, h3, h4⟩ := OpenT.struct5 Try.underlying53 h
  obtain ⟨p, m, mv, mo, rfl, g1, g2⟩ := open_field h0
  obtain ⟨kd, rfl, _⟩ := OpenT.int Try.underlying3 h1
  obtain ⟨k, rfl, _⟩ := OpenT.int Try.underlying3 h2
  obtain ⟨d, rfl, _⟩ := OpenT.int Try.underlying3 h3
  obtain ⟨pv, pts, rfl, g3, g4, _⟩ := OpenT.ints Try.underlying29 Try.underlying3 c3 b3 h4
  exact ⟨⟨p, m, mo, kd, k, d, pts⟩, mv, pv, rfl, g1, g2, g3, g4⟩
end Go.AM.Ytmihmgnjnedfcaa
end

section
/- Codes of the program, as the conversion gives them. -/
set_option maxRecDepth 100000
namespace Go.AM.Ytmihmgnjnedfcaa
open Go Go.AM
-- regenerate_elements
abbrev c_regenerate_elementsL0_3 : SC := (.reg [o 23 (.bin .add (.t 15) (ki 1)), o 15 (.mv (.t 23))])
abbrev c_regenerate_elementsL0_2 : SC := .seq (.block 1 (.seq (.reg [o 17 (.iadr (.t 13) (.t 15) 1), o 18 (.ld (.t 17) 1 false), o 8 (.mv (.t 18))]) (.seq (.reg [o 19 (.mv (.t 0)), o 20 (.mv (.t 8)), o 21 (.call (.f n_field_GF_Is) [.t 19, .t 20]), o 22 (.not (.t 21))]) (.cond (.t 22) (.seq (.reg [o 6 (.mv (ki 2))]) .ret) .skip)))) c_regenerate_elementsL0_3
abbrev c_regenerate_elementsL0_1 : SC := .seq (.cond (.t 16) .skip (.exit 0)) c_regenerate_elementsL0_2
abbrev c_regenerate_elementsL0_0 : SC := .seq (.reg [o 16 (.bin .lss (.t 15) (.t 14))]) c_regenerate_elementsL0_1
abbrev c_regenerate_elements_4 : SC := .ret
abbrev c_regenerate_elements_3 : SC := .seq (.reg [o 6 (.mv (ki 0))]) c_regenerate_elements_4
abbrev c_regenerate_elements_2 : SC := .seq (.seq (.reg [o 13 (.mv (.t 1)), o 14 (.len (.t 13)), o 15 (.mv (ki 0))]) (.block 0 (.loop c_regenerate_elementsL0_0))) c_regenerate_elements_3
abbrev c_regenerate_elements_1 : SC := .seq (.seq (.reg [o 9 (.mv (.t 1)), o 10 (.len (.t 9)), o 11 (.mv (.t 2)), o 12 (.bin .neq (.t 10) (.t 11))]) (.cond (.t 12) (.seq (.reg [o 6 (.mv (ki 4))]) .ret) .skip)) c_regenerate_elements_2
abbrev c_regenerate_elements_0 : SC := .seq (.reg [o 6 (.mv (ki 0))]) c_regenerate_elements_1
theorem cf_regenerate_elements : cfun Go.Proofs.Try.prog md n_regenerate_elements = some ⟨3, 24, c_regenerate_elements_0.erase, [.t 6]⟩ := by kernel_rfl
-- regenerate_powers
abbrev c_regenerate_powersL0_3 : SC := (.reg [o 26 (.bin .add (.t 13) (ki 1)), o 13 (.mv (.t 26))])
abbrev c_regenerate_powersL0_2 : SC := .seq (.block 1 (.seq (.reg [o 15 (.mv (.t 13)), o 8 (.mv (.t 15))]) (.reg [o 17 (.mv (.t 7)), o 18 (.mv (.t 8)), o 19 (.mv (.t 0)), o 20 (.mv (.t 1)), o 21 (.mv (.t 8)), o 22 (.call (.f n_field_GF_Pow) [.t 19, .t 20, .t 21]), o 16 (.mv (.t 22)), o 23 (.ext (.t 16) 0), o 24 (.ext (.t 16) 1), o 25 (.iadr (.t 17) (.t 18) 1), os (.st (.t 25) (.t 23) 1)]))) c_regenerate_powersL0_3
abbrev c_regenerate_powersL0_1 : SC := .seq (.cond (.t 14) .skip (.exit 0)) c_regenerate_powersL0_2
abbrev c_regenerate_powersL0_0 : SC := .seq (.reg [o 14 (.bin .lss (.t 13) (.t 12))]) c_regenerate_powersL0_1
abbrev c_regenerate_powers_4 : SC := .ret
abbrev c_regenerate_powers_3 : SC := .seq (.reg [o 27 (.mv (.t 7)), o 6 (.mv (.t 27))]) c_regenerate_powers_4
abbrev c_regenerate_powers_2 : SC := .seq (.seq (.reg [o 11 (.mv (.t 7)), o 12 (.len (.t 11)), o 13 (.mv (ki 0))]) (.block 0 (.loop c_regenerate_powersL0_0))) c_regenerate_powers_3
abbrev c_regenerate_powers_1 : SC := .seq (.reg [o 9 (.mv (.t 2)), o 10 (.mks (.t 9) 1 [I 0]), o 7 (.mv (.t 10))]) c_regenerate_powers_2
abbrev c_regenerate_powers_0 : SC := .seq (.reg [o 6 (.mv (.k .nils))]) c_regenerate_powers_1
theorem cf_regenerate_powers : cfun Go.Proofs.Try.prog md n_regenerate_powers = some ⟨3, 28, c_regenerate_powers_0.erase, [.t 6]⟩ := by kernel_rfl
-- ref52_Vector
abbrev c_ref52_VectorL0_2 : SC := (.reg [o 11 (.mv (.t 6)), o 12 (.bin .add (.t 11) (ki 1)), o 6 (.mv (.t 12))])
abbrev c_ref52_VectorL0_1 : SC := .seq (.block 1 (.reg [o 13 (.mv (.t 5)), o 14 (.fadr (.t 2) 0), o 16 (.fadr (.t 2) 6), o 18 (.mv (.t 1)), o 21 (.mv (.t 6)), o 15 (.ld (.t 14) 3 true), o 17 (.ld (.t 16) 1 false), o 19 (.iadr (.t 17) (.t 18) 1), o 20 (.ld (.t 19) 1 false), om 1 22 (.call (.f n_ref52_power) [.t 15, .t 20, .t 21]), o 23 (.mkl 1 1 [I 0] [(0, (1, .t 22))]), o 24 (.app (.t 13) (.t 23) 1), o 5 (.mv (.t 24))])) c_ref52_VectorL0_2
abbrev c_ref52_VectorL0_0 : SC := .seq (.seq (.reg [o 7 (.mv (.t 6)), o 8 (.fadr (.t 2) 5), o 9 (.ld (.t 8) 1 false), o 10 (.bin .lss (.t 7) (.t 9))]) (.cond (.t 10) .skip (.exit 0))) c_ref52_VectorL0_1
abbrev c_ref52_Vector_4 : SC := .ret
abbrev c_ref52_Vector_3 : SC := .seq (.reg [o 25 (.mv (.t 5)), o 4 (.mv (.t 25))]) c_ref52_Vector_4
abbrev c_ref52_Vector_2 : SC := .seq (.seq (.reg [o 6 (.mv (ki 0))]) (.block 0 (.loop c_ref52_VectorL0_0))) c_ref52_Vector_3
abbrev c_ref52_Vector_1 : SC := .seq (.reg [o 5 (.mv (.k .nils))]) c_ref52_Vector_2
abbrev c_ref52_Vector_0 : SC := .seq (.reg [o 2 (.box (.t 0)), o 4 (.mv (.k .nils))]) c_ref52_Vector_1
theorem cf_ref52_Vector : cfun Go.Proofs.Try.prog md n_ref52_Vector = some ⟨2, 26, c_ref52_Vector_0.erase, [.t 4]⟩ := by kernel_rfl
-- ref12_List
abbrev c_ref12_List_3 : SC := .ret
abbrev c_ref12_List_2 : SC := .seq (.reg [o 11 (.ld (.t 3) 3 true), o 12 (.mv (.t 1)), o 13 (.call (.f n_ref09_Entries) [.t 11, .t 12]), o 6 (.mv (.t 13))]) c_ref12_List_3
abbrev c_ref12_List_1 : SC := .seq (.seq (.reg [o 7 (.mv (.t 1)), o 8 (.len (.t 7)), o 9 (.mv (.t 2)), o 10 (.bin .neq (.t 8) (.t 9))]) (.cond (.t 10) (.seq (.reg [o 6 (.mv (ki 4))]) .ret) .skip)) c_ref12_List_2
abbrev c_ref12_List_0 : SC := .seq (.reg [o 3 (.box (.t 0)), o 6 (.mv (ki 0))]) c_ref12_List_1
theorem cf_ref12_List : cfun Go.Proofs.Try.prog md n_ref12_List = some ⟨3, 14, c_ref12_List_0.erase, [.t 6]⟩ := by kernel_rfl
-- regenerate_Help
abbrev c_regenerate_Help_7 : SC := .ret
abbrev c_regenerate_Help_6 : SC := .seq (.reg [o 46 (.mv (.t 9)), o 47 (.mv (.t 2)), o 48 (.mv (.t 9)), o 49 (.fadr (.t 3) 6), o 50 (.ld (.t 49) 1 false), o 51 (.mv (.t 1)), o 52 (.iadr (.t 50) (.t 51) 1), o 53 (.ld (.t 52) 1 false), o 54 (.mv (.t 12)), o 55 (.call (.f n_regenerate_powers) [.t 48, .t 53, .t 54]), o 56 (.call (.f n_field_GF_Dot) [.t 46, .t 47, .t 55]), o 6 (.mv (.t 56)), o 7 (.mv (ki 0))]) c_regenerate_Help_7
abbrev c_regenerate_Help_5 : SC := .seq (.seq (.reg [o 39 (.mv (.t 9)), o 40 (.mv (.t 2)), o 41 (.mv (.t 12)), o 42 (.call (.f n_regenerate_elements) [.t 39, .t 40, .t 41]), o 13 (.mv (.t 42))]) (.seq (.reg [o 43 (.mv (.t 13)), o 44 (.bin .neq (.t 43) (ki 0))]) (.cond (.t 44) (.seq (.reg [o 45 (.mv (.t 13)), o 6 (.mv (ki 0)), o 7 (.mv (.t 45))]) .ret) .skip))) c_regenerate_Help_6
abbrev c_regenerate_Help_4 : SC := .seq (.reg [o 35 (.ld (.t 3) 7 true), o 36 (.call (.f n_regenerate_sizes) [.t 35]), o 34 (.mv (.t 36)), o 37 (.ext (.t 34) 0), o 38 (.ext (.t 34) 1), o 11 (.mv (.t 37)), o 12 (.mv (.t 38))]) c_regenerate_Help_5
abbrev c_regenerate_Help_3 : SC := .seq (.reg [o 29 (.fadr (.t 3) 0), o 30 (.ld (.t 29) 3 true), o 31 (.call (.f n_field_New) [.t 30]), o 28 (.mv (.t 31)), o 32 (.ext (.t 28) 0), o 33 (.ext (.t 28) 1), o 9 (.mv (.t 32)), o 10 (.mv (.t 33))]) c_regenerate_Help_4
abbrev c_regenerate_Help_2 : SC := .seq (.seq (.reg [o 19 (.mv (.t 1)), o 20 (.bin .lss (.t 19) (ki 0)), o 21 (.mv (.t 20)), og 21 false 0 22 (.mv (.t 1)), og 21 false 0 23 (.fadr (.t 3) 6), og 21 false 0 24 (.ld (.t 23) 1 false), og 21 false 0 25 (.len (.t 24)), og 21 false 0 26 (.bin .geq (.t 22) (.t 25)), o 27 (.pick (.t 21) (kb true) (.t 26))]) (.cond (.t 27) (.seq (.reg [o 6 (.mv (ki 0)), o 7 (.mv (ki 6))]) .ret) .skip)) c_regenerate_Help_3
abbrev c_regenerate_Help_1 : SC := .seq (.seq (.reg [o 14 (.ld (.t 3) 7 true), o 15 (.call (.f n_regenerate_Check) [.t 14]), o 8 (.mv (.t 15))]) (.seq (.reg [o 16 (.mv (.t 8)), o 17 (.bin .neq (.t 16) (ki 0))]) (.cond (.t 17) (.seq (.reg [o 18 (.mv (.t 8)), o 6 (.mv (ki 0)), o 7 (.mv (.t 18))]) .ret) .skip))) c_regenerate_Help_2
abbrev c_regenerate_Help_0 : SC := .seq (.reg [o 3 (.box (.t 0)), o 6 (.mv (ki 0)), o 7 (.mv (ki 0))]) c_regenerate_Help_1
theorem cf_regenerate_Help : cfun Go.Proofs.Try.prog md n_regenerate_Help = some ⟨3, 57, c_regenerate_Help_0.erase, [.t 6, .t 7]⟩ := by kernel_rfl
-- ref52_Help
abbrev c_ref52_Help_2 : SC := .ret
abbrev c_ref52_Help_1 : SC := .seq (.reg [o 7 (.fadr (.t 3) 0), o 9 (.mv (.t 2)), o 11 (.mv (.t 1)), o 8 (.ld (.t 7) 3 true), o 10 (.ld (.t 3) 7 true), om 1 12 (.call (.f n_ref52_Vector) [.t 10, .t 11]), om 1 13 (.call (.f n_ref04_Dot) [.t 8, .t 9, .t 12]), o 6 (.mv (.t 13))]) c_ref52_Help_2
abbrev c_ref52_Help_0 : SC := .seq (.reg [o 3 (.box (.t 0)), o 6 (.mv (ki 0))]) c_ref52_Help_1
theorem cf_ref52_Help : cfun Go.Proofs.Try.prog md n_ref52_Help = some ⟨3, 14, c_ref52_Help_0.erase, [.t 6]⟩ := by kernel_rfl
-- law52_RegenerateHelps
abbrev c_law52_RegenerateHelps_8 : SC := .ret
abbrev c_law52_RegenerateHelps_7 : SC := .seq (.reg [o 59 (.mv (.t 8)), o 60 (.bin .eql (.t 59) (ki 0)), o 61 (.mv (.t 60)), og 61 true 0 62 (.mv (.t 7)), og 61 true 0 63 (.ld (.t 3) 7 true), og 61 true 0 64 (.mv (.t 1)), og 61 true 0 65 (.mv (.t 2)), og 61 true 0 66 (.call (.f n_ref52_Help) [.t 63, .t 64, .t 65]), og 61 true 0 67 (.bin .eql (.t 62) (.t 66)), o 68 (.pick (.t 61) (.t 67) (kb false)), o 6 (.mv (.t 68))]) c_law52_RegenerateHelps_8
abbrev c_law52_RegenerateHelps_6 : SC := .seq (.seq (.reg [o 50 (.mv (.t 9)), o 51 (.bin .neq (.t 50) (ki 0))]) (.cond (.t 51) (.seq (.reg [o 52 (.mv (.t 8)), o 53 (.mv (.t 9)), o 54 (.bin .eql (.t 52) (.t 53)), o 55 (.mv (.t 54)), og 55 true 0 56 (.mv (.t 7)), og 55 true 0 57 (.bin .eql (.t 56) (ki 0)), o 58 (.pick (.t 55) (.t 57) (kb false)), o 6 (.mv (.t 58))]) .ret) .skip)) c_law52_RegenerateHelps_7
abbrev c_law52_RegenerateHelps_5 : SC := .seq (.seq (.reg [o 38 (.mv (.t 9)), o 39 (.bin .eql (.t 38) (ki 0))]) (.cond (.t 39) (.seq (.reg [o 41 (.ld (.t 3) 7 true), o 42 (.call (.f n_ref52_Size) [.t 41]), o 40 (.mv (.t 42)), o 43 (.ext (.t 40) 0), o 44 (.ext (.t 40) 1), o 10 (.mv (.t 43)), o 11 (.mv (.t 44))]) (.reg [o 45 (.fadr (.t 3) 0), o 46 (.ld (.t 45) 3 true), o 47 (.mv (.t 2)), o 48 (.mv (.t 11)), o 49 (.call (.f n_ref12_List) [.t 46, .t 47, .t 48]), o 9 (.mv (.t 49))])) .skip)) c_law52_RegenerateHelps_6
abbrev c_law52_RegenerateHelps_4 : SC := .seq (.seq (.reg [o 25 (.mv (.t 9)), o 26 (.bin .eql (.t 25) (ki 0)), o 27 (.mv (.t 26)), og 27 true 0 28 (.mv (.t 1)), og 27 true 0 29 (.bin .lss (.t 28) (ki 0)), og 27 true 0 30 (.mv (.t 29)), og 30 false 0 31 (.mv (.t 1)), og 30 false 0 32 (.fadr (.t 3) 6), og 30 false 0 33 (.ld (.t 32) 1 false), og 30 false 0 34 (.len (.t 33)), og 30 false 0 35 (.bin .geq (.t 31) (.t 34)), og 27 true 0 36 (.pick (.t 30) (kb true) (.t 35)), o 37 (.pick (.t 27) (.t 36) (kb false))]) (.cond (.t 37) (.reg [o 9 (.mv (ki 6))]) .skip)) c_law52_RegenerateHelps_5
abbrev c_law52_RegenerateHelps_3 : SC := .seq (.reg [o 23 (.ld (.t 3) 7 true), o 24 (.call (.f n_ref52_Check) [.t 23]), o 9 (.mv (.t 24))]) c_law52_RegenerateHelps_4
abbrev c_law52_RegenerateHelps_2 : SC := .seq (.reg [o 17 (.ld (.t 3) 7 true), o 18 (.mv (.t 1)), o 19 (.mv (.t 2)), o 20 (.call (.f n_regenerate_Help) [.t 17, .t 18, .t 19]), o 16 (.mv (.t 20)), o 21 (.ext (.t 16) 0), o 22 (.ext (.t 16) 1), o 7 (.mv (.t 21)), o 8 (.mv (.t 22))]) c_law52_RegenerateHelps_3
abbrev c_law52_RegenerateHelps_1 : SC := .seq (.seq (.reg [o 12 (.fadr (.t 3) 6), o 13 (.ld (.t 12) 1 false), o 14 (.len (.t 13)), o 15 (.bin .gtr (.t 14) (ki 12))]) (.cond (.t 15) (.seq (.reg [o 6 (.mv (kb true))]) .ret) .skip)) c_law52_RegenerateHelps_2
abbrev c_law52_RegenerateHelps_0 : SC := .seq (.reg [o 3 (.box (.t 0)), o 6 (.mv (kb false))]) c_law52_RegenerateHelps_1
theorem cf_law52_RegenerateHelps : cfun Go.Proofs.Try.prog md n_law52_RegenerateHelps = some ⟨3, 69, c_law52_RegenerateHelps_0.erase, [.t 6]⟩ := by kernel_rfl
end Go.AM.Ytmihmgnjnedfcaa
end

section
/- Contracts of functions: lists of elements, vectors of powers, the symbol of a helper. -/
set_option maxRecDepth 100000
set_option linter.unusedSimpArgs false
set_option linter.unusedVariables false
namespace Go.AM.Ytmihmgnjnedfcaa
open Go Go.AM
attribute [local simp ↓] awp_seq awp_reg awp_skip awp_cond' awp_block awp_exit awp_ret awp_fz thenW_normal thenW_exit thenW_ret inBlk_normal inBlk_exit inBlk_ret aops_cons' contA_ap aops_nil e_mv e_guard' e_pick' e_ld' e_app e_cpy e_st' e_call callW_f updO_some updO_none e_bin' e_isnil' e_fadr' e_iadr' e_iarr' e_len' e_build' e_mkf' e_nc' e_not' e_neg' e_cvt' e_slc' e_fld' e_ext' e_min' e_eqs' e_new e_box e_mkl e_mks
attribute [local simp] upd_apply ev_t ev_k ev_f binA_add binA_sub binA_mul binA_quo binA_rem binA_eql binA_neq binA_lss binA_leq binA_gtr binA_geq det mem frame0 keeps_nil iadrA_sl fadrA_ref fadrA_fp ldv_agg ldv_one cells_base hset_same hset_hset lenA_fs lenA_sl lenA_nils zeros_ints ints_length one_base one_nilp one_nils one_ref one_sl one_fp one_fs one_fn gl_one resA resOf bound natOf afill splice AV.cells cells_agg bindR_some condR_true condR_false guardR_tup guardR_true guardR_true' guardR_false guardR_false' allocW_some pickA_true pickA_false
open Go.FM

open Classical in
/-- The answer on a list that must have n elements. -/
noncomputable def elE (D : Ds) (l : List Int) (n : Int) : Int := if (l.length : Int) ≠ n then 4 else if ∀ x ∈ l, D.R x then 0 else 2

theorem s_elements {D : Ds} (r : Fd D) {v : AV} {l : List Int} (hv : IL v l) (hl : l.length < 4611686018427387904) (n : Int) : Pure prog n_regenerate_elements [.fp (gfC D), v, I n] (I (elE D l n)) := by
  classical
  refine pure_of cf_regenerate_elements rfl fun h => ?_
  unfold elE
  by_cases hn : (l.length : Int) = n
  case neg =>
    rw [if_pos hn]
    simp [hv.len, hn]
    exact RetP.same
  subst hn
  rw [if_neg (by simp)]
  simp [hv.len]
  refine awp_for l.length (fun k fr' h' => h' = h ∧ fr' 15 = I k ∧ ∀ x ∈ l.take k, D.R x) ⟨rfl, by simp, by simp⟩ ?_
  intro k fr' h' hkn hk ⟨hh, k15, hx⟩
  subst hh
  have k0 := hk 0 (by decide)
  have k13 := hk 13 (by decide)
  have k14 := hk 14 (by decide)
  simp at k0 k13 k14
  clear hk
  by_cases hlt : k < l.length
  · have hia := hv.iadr (i := k) ⟨by omega, by omega⟩
    simp at hia
    have hld := fun h' => ld_ints (h := h') hlt
    have hmem : l.getD k 0 ∈ l := by simp only [List.getD, List.getElem?_eq_getElem hlt, Option.getD_some]; exact List.getElem_mem hlt
    have htk : l.take (k + 1) = l.take k ++ [l.getD k 0] := by rw [List.take_succ_eq_append_getElem hlt]; simp [List.getD, hlt]
    rw [htk]
    generalize l.getD k 0 = y at *
    have u1 : IntKind.i64.wrap ((k : Int) + 1) = k + 1 := w64 _ (by omega)
    simp [k0, k13, k14, k15, hlt, hia, hld]
    refine (s_Is r y).call ?_
    by_cases c : 0 ≤ y ∧ y < D.q
    · rw [decide_eq_true c]
      simp [k15, u1, hlt]
      intro x hxx
      rcases hxx with hxx | rfl
      · exact hx x hxx
      · exact c
    · rw [decide_eq_false c]
      simp
      rw [if_neg fun hc => c (hc y hmem)]
      exact RetP.same
  · have : k = l.length := by omega
    subst this
    rw [List.take_length] at hx
    simp [k14, k15]
    rw [if_pos hx]
    exact RetP.same

theorem s_List {D : Ds} (r : Rg D) {mv v : AV} (hone : one mv = true) {l : List Int} (hv : IL v l) (hl : l.length < 4611686018427387904) (n : Int) : Pure prog n_ref12_List [.agg [I D.p, I D.m, mv], v, I n] (I (elE D l n)) := by
  classical
  refine pure_of cf_ref12_List rfl fun h => ?_
  simp [hone]
  intro b2 hb2
  obtain ⟨l0, l1, l2, l3⟩ := ld3_at (hset_same h b2 [I D.p, I D.m, mv])
  have hkg : Kp h (hset h b2 [I D.p, I D.m, mv]) := (Kp.refl h).new hb2 _
  generalize hset h b2 [I D.p, I D.m, mv] = g at *
  unfold elE
  by_cases hn : (l.length : Int) = n
  case neg =>
    rw [if_pos hn]
    simp [hv.len, hn]
    exact ⟨_, hkg.sub, .id _, rfl⟩
  rw [if_neg (by simpa using hn)]
  obtain ⟨e, he1, he2, hP⟩ := s_Entries r hone hv hl
  simp [hv.len, hn, l3]
  refine hP.call ?_
  simp
  refine ⟨_, hkg.sub, .id _, ?_⟩
  by_cases hx : ∀ x ∈ l, D.R x
  · rw [if_pos hx, he2.2 hx]
  · rw [if_neg hx, he1.resolve_left fun hc => hx (he2.1 hc)]

theorem pwL_set {D : Ds} {x : Int} {n k : Nat} (hk : k < n) : (pwL D x k ++ List.replicate (n - k) 0).set k (D.pw x k) = pwL D x (k + 1) ++ List.replicate (n - (k + 1)) 0 := by
  rw [set_mid (pwL_len D x k) hk, pwL_succ]

theorem s_powersR {D : Ds} (r : Fd D) (x : Int) (n : Nat) (hn : n ≤ 4294967296) : Pure prog n_regenerate_powers [.fp (gfC D), I x, I n] (.fs n (ints (pwL D x n))) := by
  refine pure_of cf_regenerate_powers rfl fun h => ?_
  have hn' : (n : Int) ≤ 4294967296 := by omega
  simp [hn']
  intro b7 hb7
  have hk0 : Kp h (hset h b7 (ints (List.replicate n 0))) := (Kp.refl h).new hb7 _
  refine awp_for n (fun k fr' h' => Kp h h' ∧ h' b7 = some (ints (pwL D x k ++ List.replicate (n - k) 0)) ∧ fr' 13 = I k) ⟨hk0, by simp [hset_same, pwL], by simp⟩ ?_
  intro k fr' h' hkn hk ⟨hkp, hb, k13⟩
  have k0 := hk 0 (by decide)
  have k1 := hk 1 (by decide)
  have k7 := hk 7 (by decide)
  have k12 := hk 12 (by decide)
  simp at k0 k1 k7 k12
  clear hk
  by_cases hlt : k < n
  · have u2 : IntKind.i64.wrap ((k : Int) + 1) = k + 1 := w64 _ (by omega)
    have st := fun R => sr_ints (R := R) (v := D.pw x k) hb (k := k) (by simp [pwL_len]; omega)
    rw [pwL_set hlt] at st
    simp [k0, k1, k7, k12, k13, hlt]
    refine (s_Pow r x k (by omega)).call ?_
    simp [k13, u2, hlt, st]
    exact hkp.set hb7 _
  · have : k = n := by omega
    subst this
    simp [k7, k12, k13]
    rw [Nat.sub_self, List.replicate_zero, List.append_nil] at hb
    exact ret_blk hb hb7 hkp (by simp [ints_length, pwL_len]) rfl

theorem s_Vector {R : Rc} (hf : FieldP R.p R.m R.mo) {mv pv : AV} (hmv : IL mv R.mo) (hpv : IL pv R.pts) {i : Int} (hi : 0 ≤ i ∧ i < R.pts.length) {d : Nat} (hd : R.d = d) (hd2 : d ≤ 64) :
    Pure prog n_ref52_Vector [.agg (R.cells mv pv), I i] (gl d (ints (pwL R.D (R.pts.getD i.toNat 0) d))) := by
  refine pure_of cf_ref52_Vector rfl fun h => ?_
  have hone := hmv.one
  have hone2 := hpv.one
  have r := hf.fd
  have hia := hpv.iadr hi
  have hld := fun h' => ld_ints (h := h') (l := R.pts) (k := i.toNat) (by omega)
  generalize R.pts.getD i.toNat 0 = x at *
  simp [hone, hone2]
  intro b1 hb1
  have hkg : Kp h (hset h b1 (R.cells mv pv)) := (Kp.refl h).new hb1 _
  have hg1 : (hset h b1 (R.cells mv pv)) b1 = some (R.cells mv pv) := hset_same ..
  generalize hset h b1 (R.cells mv pv) = g at *
  refine awp_for d (fun k fr' h' => (∃ v, fr' 5 = v ∧ Own 1 g h' v k (ints (pwL R.D x k))) ∧ fr' 6 = I k) ⟨⟨.nils, by simp, by simpa [pwL, ints] using Own.nils 1 g⟩, by simp⟩ ?_
  intro k fr' h' hkn hk ⟨⟨v, k5, o⟩, k6⟩
  have k1 := hk 1 (by decide)
  have k2 := hk 2 (by decide)
  simp at k1 k2
  clear hk
  obtain ⟨p0, p3, p4, p5, p6, p7⟩ := ld7_at (o.rd hg1)
  rw [hd] at p5
  by_cases hlt : k < d
  · have u2 : IntKind.i64.wrap ((k : Int) + 1) = k + 1 := w64 _ (by omega)
    have hp1 := s_power r hmv x k (by omega)
    rw [hf.1.dp, hf.1.dm] at hp1
    have hs : ints (pwL R.D x (k + 1)) = ints (pwL R.D x k) ++ [I (R.D.pw x k)] := by rw [pwL_succ, ints_append]; rfl
    rw [hs]
    simp [k1, k2, k5, k6, p0, p5, p6, hlt, hia, hld]
    refine hp1.call ?_
    simp
    intro b hb
    refine o.app1 (m := 1) hb (by simp) (by omega) fun v' h3 o3 => ?_
    simp [k6, u2]
    exact o3
  · have : k = d := by omega
    subst this
    simp [k2, k5, k6, p5]
    exact o.ret hkg rfl

theorem dotK_congr {D : Ds} {a b c : List Int} : ∀ k, (∀ i, i < k → b.getD i 0 = c.getD i 0) → dotK D a b k = dotK D a c k
  | 0, _ => rfl
  | k + 1, h => by
    simp only [dotK]
    rw [dotK_congr k fun i hi => h i (by omega), h k (by omega)]

open Classical in
noncomputable def Rc.helpE (R : Rc) (f : Int) (c : List Int) : Int := if R.E ≠ 0 then R.E else if f < 0 ∨ (R.pts.length : Int) ≤ f then 6 else elE R.D c R.szN
/-- The symbol. -/
noncomputable def Rc.helpV (R : Rc) (f : Int) (c : List Int) : Int := dotK R.D c (pwL R.D (R.pts.getD f.toNat 0) R.szN.toNat) R.szN.toNat
open Classical in
noncomputable def Rc.helpR (R : Rc) (f : Int) (c : List Int) : AV := if R.helpE f c = 0 then .tup [I (R.helpV f c), I 0] else .tup [I 0, I (R.helpE f c)]

theorem Rc.Okn.szN {R : Rc} (o : R.Okn) : 0 ≤ R.szN ∧ R.szN ≤ 63 ∧ R.szN ≤ R.d := by
  have h1 := o.k1
  have h2 := o.kd2
  have h3 := o.d
  unfold Rc.szN
  split <;> omega

theorem newR_pos {p m : Int} {mo : List Int} (h : FieldP p m mo) : newR p m mo = .tup [.fp (gfC (mkD p m mo)), I 0] := by
  unfold newR; rw [if_pos h]

set_option maxHeartbeats 2000000 in
theorem s_Help {R : Rc} {mv pv v : AV} (hmv : IL mv R.mo) (hml : R.mo.length < 4611686018427387904) (hpv : IL pv R.pts) (hpl : R.pts.length < 4611686018427387904) (f : Int) {c : List Int} (hv : IL v c) (hcl : c.length < 4611686018427387904) :
    Pure prog n_regenerate_Help [.agg (R.cells mv pv), I f, v] (R.helpR f c) := by
  classical
  refine pure_of cf_regenerate_Help rfl fun h => ?_
  have hone := hmv.one
  have hone2 := hpv.one
  simp [hone, hone2]
  intro b3 hb3
  obtain ⟨l0, l3, l4, l5, l6, l7⟩ := ld7_at (hset_same h b3 (R.cells mv pv))
  have hkg : Kp h (hset h b3 (R.cells mv pv)) := (Kp.refl h).new hb3 _
  generalize hset h b3 (R.cells mv pv) = g at *
  have bad : ∀ e, R.helpE f c = e → e ≠ 0 → RetP h (R.helpR f c) (.tup [I 0, I e]) g := fun e he h0 => by
    rw [Rc.helpR, if_neg (by rw [he]; exact h0), he]; exact ⟨_, hkg.sub, .id _, rfl⟩
  simp [l7]
  refine (s_regCheck hmv hml hpv hpl).call ?_
  by_cases hE : R.E = 0
  case neg =>
    simp [hE]
    exact bad _ (by rw [Rc.helpE, if_pos hE]) hE
  have hE2 : R.helpE f c = if f < 0 ∨ (R.pts.length : Int) ≤ f then 6 else elE R.D c R.szN := by rw [Rc.helpE, if_neg (by simpa using hE)]
  obtain ⟨hf, e2, e3, ok, e5, _⟩ := Rc.E0 hE
  rw [hE]
  by_cases c1 : f < 0
  · simp [c1]
    exact bad 6 (by rw [hE2, if_pos (.inl c1)]) (by omega)
  by_cases c2 : (R.pts.length : Int) ≤ f
  · simp [c1, c2, l6, hpv.len]
    exact bad 6 (by rw [hE2, if_pos (.inr c2)]) (by omega)
  rw [if_neg (by omega)] at hE2
  have r := hf.fd
  simp [c1, c2, l0, l6, hpv.len]
  refine (s_New R.p R.m hmv hml).call ?_
  rw [newR_pos hf]
  simp [l7]
  refine (s_sizes ok hone hone2).call ?_
  have hsn := ok.szN
  simp
  refine (s_elements r hv hcl R.szN).call ?_
  by_cases he : elE R.D c R.szN = 0
  case neg =>
    have he' := he
    rw [← hE2] at he'
    simp [he]
    exact bad _ hE2 he
  rw [he]
  have hlen : (c.length : Int) = R.szN := by
    unfold elE at he
    split at he
    · omega
    · rename_i hh; exact Classical.byContradiction fun hc => hh hc
  have hia := hpv.iadr (i := f) ⟨by omega, by omega⟩
  have hld := fun h' => ld_ints (h := h') (l := R.pts) (k := f.toNat) (by omega)
  have hV : R.helpR f c = .tup [I (R.helpV f c), I 0] := by rw [Rc.helpR, if_pos (by rw [hE2, he])]
  rw [hV]
  unfold Rc.helpV
  obtain ⟨n, hn⟩ : ∃ n : Nat, R.szN = n := ⟨R.szN.toNat, by omega⟩
  rw [hn] at hlen hsn ⊢
  have hnt : ((n : Int)).toNat = n := by omega
  rw [hnt]
  have hpw := s_powersR r (R.pts.getD f.toNat 0) n (by omega)
  have hIp := IL.fs (pwL R.D (R.pts.getD f.toNat 0) n)
  rw [pwL_len] at hIp
  have hdot := s_Dot r hv hIp hcl (by rw [pwL_len]; omega)
  rw [pwL_len, show min c.length n = n by omega] at hdot
  generalize R.pts.getD f.toNat 0 = x at *
  simp [l6, hia, hld]
  refine hpw.call ?_
  simp
  refine hdot.call ?_
  simp
  exact ⟨_, hkg.sub, .id _, rfl⟩

theorem s_refHelp {R : Rc} (hE : R.E = 0) {mv pv v : AV} (hmv : IL mv R.mo) (hpv : IL pv R.pts) {f : Int} (hf1 : 0 ≤ f ∧ f < R.pts.length) {c : List Int} (hv : IL v c) (hcl : (c.length : Int) = R.szN) :
    Pure prog n_ref52_Help [.agg (R.cells mv pv), I f, v] (I (R.helpV f c)) := by
  refine pure_of cf_ref52_Help rfl fun h => ?_
  have hone := hmv.one
  have hone2 := hpv.one
  obtain ⟨hf, e2, e3, ok, e5, _⟩ := Rc.E0 hE
  have r := hf.fd
  have hsn := ok.szN
  simp [hone, hone2]
  intro b3 hb3
  obtain ⟨l0, l3, l4, l5, l6, l7⟩ := ld7_at (hset_same h b3 (R.cells mv pv))
  have hkg : Kp h (hset h b3 (R.cells mv pv)) := (Kp.refl h).new hb3 _
  generalize hset h b3 (R.cells mv pv) = g at *
  obtain ⟨d, hd⟩ : ∃ d : Nat, R.d = d := ⟨R.d.toNat, by have := ok.k1; have := ok.kd2; omega⟩
  have hd63 := ok.d
  have hvec := s_Vector hf hmv hpv hf1 hd (by omega)
  have hIv := gl_SV (sz := 1) (n := d) (cs := ints (pwL R.D (R.pts.getD f.toNat 0) d)) (by rw [ints_length, pwL_len]; omega)
  have hIv2 : IL (gl d (ints (pwL R.D (R.pts.getD f.toNat 0) d))) (pwL R.D (R.pts.getD f.toNat 0) d) := by
    unfold IL; rw [pwL_len]; exact hIv
  have hdot := s_refDot r hmv hv hIv2 (by omega) (by rw [pwL_len]; omega)
  rw [hf.1.dp, hf.1.dm, pwL_len] at hdot
  unfold Rc.helpV
  obtain ⟨n, hn⟩ : ∃ n : Nat, R.szN = n := ⟨R.szN.toNat, by omega⟩
  rw [hn] at hcl hsn ⊢
  have hnt : ((n : Int)).toNat = n := by omega
  rw [hnt]
  rw [show min c.length d = n by omega] at hdot
  have hcg : dotK R.D c (pwL R.D (R.pts.getD f.toNat 0) d) n = dotK R.D c (pwL R.D (R.pts.getD f.toNat 0) n) n := dotK_congr n fun i hi => by
    rw [pwL_getD (by omega), pwL_getD hi]
  rw [hcg] at hdot
  generalize R.pts.getD f.toNat 0 = x at *
  simp [l0, l7]
  refine hvec.call ?_
  simp
  refine hdot.call ?_
  simp
  exact ⟨_, hkg.sub, .id _, rfl⟩
end Go.AM.Ytmihmgnjnedfcaa
end

section
/- Codes of the program, as the conversion gives them. -/
set_option maxRecDepth 100000
namespace Go.AM.Ytmihmgnjnedfcaa
open Go Go.AM
-- regenerate_rows
abbrev c_regenerate_rowsL0_3 : SC := (.reg [o 27 (.bin .add (.t 14) (ki 1)), o 14 (.mv (.t 27))])
abbrev c_regenerate_rowsL0_2 : SC := .seq (.block 1 (.seq (.reg [o 16 (.iadr (.t 12) (.t 14) 1), o 17 (.ld (.t 16) 1 false), o 9 (.mv (.t 17))]) (.reg [o 18 (.fadr (.t 7) 1), o 20 (.mv (.t 0)), o 21 (.mv (.t 9)), o 22 (.mv (.t 2)), o 19 (.ld (.t 18) 1 false), om 1 23 (.call (.f n_regenerate_powers) [.t 20, .t 21, .t 22]), o 24 (.mkl 1 1 [.nils] [(0, (1, .t 23))]), o 25 (.app (.t 19) (.t 24) 1), o 26 (.fadr (.t 7) 1), os (.st (.t 26) (.t 25) 1)]))) c_regenerate_rowsL0_3
abbrev c_regenerate_rowsL0_1 : SC := .seq (.cond (.t 15) .skip (.exit 0)) c_regenerate_rowsL0_2
abbrev c_regenerate_rowsL0_0 : SC := .seq (.reg [o 15 (.bin .lss (.t 14) (.t 13))]) c_regenerate_rowsL0_1
abbrev c_regenerate_rows_4 : SC := .ret
abbrev c_regenerate_rows_3 : SC := .seq (.reg [o 28 (.ld (.t 7) 2 true), os (.st (.t 6) (.t 28) 2)]) c_regenerate_rows_4
abbrev c_regenerate_rows_2 : SC := .seq (.seq (.reg [o 12 (.mv (.t 1)), o 13 (.len (.t 12)), o 14 (.mv (ki 0))]) (.block 0 (.loop c_regenerate_rowsL0_0))) c_regenerate_rows_3
abbrev c_regenerate_rows_1 : SC := .seq (.reg [o 10 (.mv (.t 2)), o 11 (.build [I 0, .nils] [(0, (1, .t 10))]), o 7 (.new [I 0, .nils]), os (.st (.t 7) (.t 11) 2)]) c_regenerate_rows_2
abbrev c_regenerate_rows_0 : SC := .seq (.reg [o 6 (.new [I 0, .nils])]) c_regenerate_rows_1
theorem cf_regenerate_rows : cfun Go.Proofs.Try.prog md n_regenerate_rows = some ⟨3, 29, c_regenerate_rows_0.erase, [.c 6 2 true]⟩ := by kernel_rfl
-- regenerate_square
abbrev c_regenerate_squareL0_3 : SC := (.reg [o 14 (.bin .add (.t 7) (ki 1)), o 7 (.mv (.t 14))])
abbrev c_regenerate_squareL0_2 : SC := .seq (.block 1 (.reg [o 9 (.mv (.t 5)), o 10 (.mv (.t 1)), o 11 (.mks (.t 10) 1 [I 0]), o 12 (.mkl 1 1 [.nils] [(0, (1, .t 11))]), o 13 (.app (.t 9) (.t 12) 1), o 5 (.mv (.t 13))])) c_regenerate_squareL0_3
abbrev c_regenerate_squareL0_1 : SC := .seq (.cond (.t 8) .skip (.exit 0)) c_regenerate_squareL0_2
abbrev c_regenerate_squareL0_0 : SC := .seq (.reg [o 8 (.bin .lss (.t 7) (.t 6))]) c_regenerate_squareL0_1
abbrev c_regenerate_square_4 : SC := .ret
abbrev c_regenerate_square_3 : SC := .seq (.reg [o 15 (.mv (.t 5)), o 4 (.mv (.t 15))]) c_regenerate_square_4
abbrev c_regenerate_square_2 : SC := .seq (.seq (.reg [o 6 (.mv (.t 0)), o 7 (.mv (ki 0))]) (.block 0 (.loop c_regenerate_squareL0_0))) c_regenerate_square_3
abbrev c_regenerate_square_1 : SC := .seq (.reg [o 5 (.mv (.k .nils))]) c_regenerate_square_2
abbrev c_regenerate_square_0 : SC := .seq (.reg [o 4 (.mv (.k .nils))]) c_regenerate_square_1
theorem cf_regenerate_square : cfun Go.Proofs.Try.prog md n_regenerate_square = some ⟨2, 16, c_regenerate_square_0.erase, [.t 4]⟩ := by kernel_rfl
-- regenerate_symmetric
abbrev c_regenerate_symmetricL1_2 : SC := (.reg [o 17 (.mv (.t 8)), o 18 (.bin .add (.t 17) (ki 1)), o 8 (.mv (.t 18))])
abbrev c_regenerate_symmetricL1_1 : SC := .seq (.block 3 (.seq (.reg [o 19 (.mv (.t 0)), o 20 (.mv (.t 7)), o 21 (.iadr (.t 19) (.t 20) 1), o 23 (.mv (.t 8)), o 24 (.mv (.t 0)), o 25 (.mv (.t 8)), o 26 (.iadr (.t 24) (.t 25) 1), o 28 (.mv (.t 7)), o 29 (.mv (.t 2)), o 30 (.iadr (.t 29) (ki 0) 1), o 32 (.mv (.t 2)), o 33 (.iadr (.t 32) (ki 0) 1), o 22 (.ld (.t 21) 1 false), o 27 (.ld (.t 26) 1 false), o 31 (.ld (.t 30) 1 false), o 34 (.ld (.t 33) 1 false), o 35 (.iadr (.t 22) (.t 23) 1), os (.st (.t 35) (.t 31) 1), o 36 (.iadr (.t 27) (.t 28) 1), os (.st (.t 36) (.t 34) 1)]) (.reg [o 37 (.mv (.t 2)), o 38 (.slc (.t 37) (some (ki 1)) none none 1), o 2 (.mv (.t 38))]))) c_regenerate_symmetricL1_2
abbrev c_regenerate_symmetricL1_0 : SC := .seq (.seq (.reg [o 14 (.mv (.t 8)), o 15 (.mv (.t 1)), o 16 (.bin .lss (.t 14) (.t 15))]) (.cond (.t 16) .skip (.exit 2))) c_regenerate_symmetricL1_1
abbrev c_regenerate_symmetricL0_3 : SC := (.reg [o 39 (.bin .add (.t 10) (ki 1)), o 10 (.mv (.t 39))])
abbrev c_regenerate_symmetricL0_2 : SC := .seq (.block 1 (.seq (.reg [o 12 (.mv (.t 10)), o 7 (.mv (.t 12))]) (.seq (.reg [o 13 (.mv (.t 7)), o 8 (.mv (.t 13))]) (.block 2 (.loop c_regenerate_symmetricL1_0))))) c_regenerate_symmetricL0_3
abbrev c_regenerate_symmetricL0_1 : SC := .seq (.cond (.t 11) .skip (.exit 0)) c_regenerate_symmetricL0_2
abbrev c_regenerate_symmetricL0_0 : SC := .seq (.reg [o 11 (.bin .lss (.t 10) (.t 9))]) c_regenerate_symmetricL0_1
abbrev c_regenerate_symmetric_3 : SC := .ret
abbrev c_regenerate_symmetric_2 : SC := .seq (.reg [o 40 (.mv (.t 2)), o 6 (.mv (.t 40))]) c_regenerate_symmetric_3
abbrev c_regenerate_symmetric_1 : SC := .seq (.seq (.reg [o 9 (.mv (.t 1)), o 10 (.mv (ki 0))]) (.block 0 (.loop c_regenerate_symmetricL0_0))) c_regenerate_symmetric_2
abbrev c_regenerate_symmetric_0 : SC := .seq (.reg [o 6 (.mv (.k .nils))]) c_regenerate_symmetric_1
theorem cf_regenerate_symmetric : cfun Go.Proofs.Try.prog md n_regenerate_symmetric = some ⟨3, 41, c_regenerate_symmetric_0.erase, [.t 6]⟩ := by kernel_rfl
-- regenerate_message
abbrev c_regenerate_messageL1_2 : SC := (.reg [o 58 (.mv (.t 12)), o 59 (.bin .add (.t 58) (ki 1)), o 12 (.mv (.t 59))])
abbrev c_regenerate_messageL1_1 : SC := .seq (.block 3 (.seq (.reg [o 60 (.mv (.t 9)), o 61 (.mv (.t 11)), o 62 (.iadr (.t 60) (.t 61) 1), o 64 (.mv (.t 12)), o 65 (.mv (.t 9)), o 66 (.mv (.t 12)), o 67 (.iadr (.t 65) (.t 66) 1), o 69 (.mv (.t 11)), o 70 (.mv (.t 10)), o 71 (.iadr (.t 70) (ki 0) 1), o 73 (.mv (.t 10)), o 74 (.iadr (.t 73) (ki 0) 1), o 63 (.ld (.t 62) 1 false), o 68 (.ld (.t 67) 1 false), o 72 (.ld (.t 71) 1 false), o 75 (.ld (.t 74) 1 false), o 76 (.iadr (.t 63) (.t 64) 1), os (.st (.t 76) (.t 72) 1), o 77 (.iadr (.t 68) (.t 69) 1), os (.st (.t 77) (.t 75) 1)]) (.reg [o 78 (.mv (.t 10)), o 79 (.slc (.t 78) (some (ki 1)) none none 1), o 10 (.mv (.t 79))]))) c_regenerate_messageL1_2
abbrev c_regenerate_messageL1_0 : SC := .seq (.seq (.reg [o 54 (.mv (.t 12)), o 55 (.fadr (.t 2) 5), o 56 (.ld (.t 55) 1 false), o 57 (.bin .lss (.t 54) (.t 56))]) (.cond (.t 57) .skip (.exit 2))) c_regenerate_messageL1_1
abbrev c_regenerate_messageL0_3 : SC := (.reg [o 80 (.bin .add (.t 49) (ki 1)), o 49 (.mv (.t 80))])
abbrev c_regenerate_messageL0_2 : SC := .seq (.block 1 (.seq (.reg [o 51 (.mv (.t 49)), o 11 (.mv (.t 51))]) (.seq (.reg [o 52 (.fadr (.t 2) 4), o 53 (.ld (.t 52) 1 false), o 12 (.mv (.t 53))]) (.block 2 (.loop c_regenerate_messageL1_0))))) c_regenerate_messageL0_3
abbrev c_regenerate_messageL0_1 : SC := .seq (.cond (.t 50) .skip (.exit 0)) c_regenerate_messageL0_2
abbrev c_regenerate_messageL0_0 : SC := .seq (.reg [o 50 (.bin .lss (.t 49) (.t 48))]) c_regenerate_messageL0_1
abbrev c_regenerate_message_6 : SC := .ret
abbrev c_regenerate_message_5 : SC := .seq (.reg [o 81 (.mv (.t 9)), o 4 (.mv (.t 81))]) c_regenerate_message_6
abbrev c_regenerate_message_4 : SC := .seq (.seq (.reg [o 47 (.fadr (.t 2) 4), o 48 (.ld (.t 47) 1 false), o 49 (.mv (ki 0))]) (.block 0 (.loop c_regenerate_messageL0_0))) c_regenerate_message_5
abbrev c_regenerate_message_3 : SC := .seq (.reg [o 42 (.mv (.t 9)), o 43 (.fadr (.t 2) 4), o 44 (.ld (.t 43) 1 false), o 45 (.mv (.t 1)), o 46 (.call (.f n_regenerate_symmetric) [.t 42, .t 44, .t 45]), o 10 (.mv (.t 46))]) c_regenerate_message_4
abbrev c_regenerate_message_2 : SC := .seq (.reg [o 37 (.fadr (.t 2) 5), o 38 (.ld (.t 37) 1 false), o 39 (.fadr (.t 2) 5), o 40 (.ld (.t 39) 1 false), o 41 (.call (.f n_regenerate_square) [.t 38, .t 40]), o 9 (.mv (.t 41))]) c_regenerate_message_3
abbrev c_regenerate_message_1 : SC := .seq (.seq (.reg [o 13 (.fadr (.t 2) 3), o 14 (.ld (.t 13) 1 false), o 15 (.bin .eql (.t 14) (ki 1))]) (.cond (.t 15) (.seq (.reg [o 17 (.ld (.t 2) 7 true), o 18 (.call (.f n_regenerate_sizes) [.t 17]), o 16 (.mv (.t 18)), o 19 (.ext (.t 16) 0), o 20 (.ext (.t 16) 1), o 5 (.mv (.t 19)), o 6 (.mv (.t 20))]) (.seq (.reg [o 21 (.mv (.t 6)), o 22 (.mv (.t 6)), o 23 (.call (.f n_regenerate_square) [.t 21, .t 22]), o 24 (.mv (.t 6)), o 25 (.mv (.t 6)), o 26 (.call (.f n_regenerate_square) [.t 24, .t 25]), o 7 (.mv (.t 23)), o 8 (.mv (.t 26))]) (.seq (.reg [o 27 (.mv (.t 8)), o 28 (.mv (.t 6)), o 29 (.mv (.t 7)), o 30 (.mv (.t 6)), o 31 (.mv (.t 1)), o 32 (.call (.f n_regenerate_symmetric) [.t 29, .t 30, .t 31]), o 33 (.call (.f n_regenerate_symmetric) [.t 27, .t 28, .t 32])]) (.seq (.reg [o 34 (.mv (.t 7)), o 35 (.mv (.t 8)), o 36 (.app (.t 34) (.t 35) 1), o 4 (.mv (.t 36))]) .ret)))) .skip)) c_regenerate_message_2
abbrev c_regenerate_message_0 : SC := .seq (.reg [o 2 (.box (.t 0)), o 4 (.mv (.k .nils))]) c_regenerate_message_1
theorem cf_regenerate_message : cfun Go.Proofs.Try.prog md n_regenerate_message = some ⟨2, 82, c_regenerate_message_0.erase, [.t 4]⟩ := by kernel_rfl
-- regenerate_Encode
abbrev c_regenerate_Encode_7 : SC := .ret
abbrev c_regenerate_Encode_6 : SC := .seq (.reg [o 54 (.fadr (.t 12) 1), o 55 (.ld (.t 54) 1 false), o 56 (.mv (.t 13)), o 4 (.mv (.t 55)), o 5 (.mv (.t 56))]) c_regenerate_Encode_7
abbrev c_regenerate_Encode_5 : SC := .seq (.reg [o 38 (.fadr (.t 2) 0), o 40 (.mv (.t 7)), o 41 (.fadr (.t 2) 6), o 43 (.fadr (.t 2) 5), o 46 (.mv (.t 10)), o 48 (.mv (.t 1)), o 39 (.ld (.t 38) 3 true), o 42 (.ld (.t 41) 1 false), o 44 (.ld (.t 43) 1 false), o 47 (.ld (.t 2) 7 true), om 1 45 (.call (.f n_regenerate_rows) [.t 40, .t 42, .t 44]), om 1 49 (.call (.f n_regenerate_message) [.t 47, .t 48]), o 50 (.build [I 0, .nils] [(0, (1, .t 46)), (1, (1, .t 49))]), om 1 51 (.call (.f n_matrix_Mul) [.t 39, .t 45, .t 50]), o 37 (.mv (.t 51)), o 52 (.ext (.t 37) 0), o 53 (.ext (.t 37) 1), o 12 (.new [I 0, .nils]), os (.st (.t 12) (.t 52) 2), o 13 (.mv (.t 53))]) c_regenerate_Encode_6
abbrev c_regenerate_Encode_4 : SC := .seq (.seq (.reg [o 30 (.mv (.t 7)), o 31 (.mv (.t 1)), o 32 (.mv (.t 9)), o 33 (.call (.f n_regenerate_elements) [.t 30, .t 31, .t 32]), o 11 (.mv (.t 33))]) (.seq (.reg [o 34 (.mv (.t 11)), o 35 (.bin .neq (.t 34) (ki 0))]) (.cond (.t 35) (.seq (.reg [o 36 (.mv (.t 11)), o 4 (.mv (.k .nils)), o 5 (.mv (.t 36))]) .ret) .skip))) c_regenerate_Encode_5
abbrev c_regenerate_Encode_3 : SC := .seq (.reg [o 26 (.ld (.t 2) 7 true), o 27 (.call (.f n_regenerate_sizes) [.t 26]), o 25 (.mv (.t 27)), o 28 (.ext (.t 25) 0), o 29 (.ext (.t 25) 1), o 9 (.mv (.t 28)), o 10 (.mv (.t 29))]) c_regenerate_Encode_4
abbrev c_regenerate_Encode_2 : SC := .seq (.reg [o 20 (.fadr (.t 2) 0), o 21 (.ld (.t 20) 3 true), o 22 (.call (.f n_field_New) [.t 21]), o 19 (.mv (.t 22)), o 23 (.ext (.t 19) 0), o 24 (.ext (.t 19) 1), o 7 (.mv (.t 23)), o 8 (.mv (.t 24))]) c_regenerate_Encode_3
abbrev c_regenerate_Encode_1 : SC := .seq (.seq (.reg [o 14 (.ld (.t 2) 7 true), o 15 (.call (.f n_regenerate_Check) [.t 14]), o 6 (.mv (.t 15))]) (.seq (.reg [o 16 (.mv (.t 6)), o 17 (.bin .neq (.t 16) (ki 0))]) (.cond (.t 17) (.seq (.reg [o 18 (.mv (.t 6)), o 4 (.mv (.k .nils)), o 5 (.mv (.t 18))]) .ret) .skip))) c_regenerate_Encode_2
abbrev c_regenerate_Encode_0 : SC := .seq (.reg [o 2 (.box (.t 0)), o 4 (.mv (.k .nils)), o 5 (.mv (ki 0))]) c_regenerate_Encode_1
theorem cf_regenerate_Encode : cfun Go.Proofs.Try.prog md n_regenerate_Encode = some ⟨2, 57, c_regenerate_Encode_0.erase, [.t 4, .t 5]⟩ := by kernel_rfl
-- ref52_symmetric
abbrev c_ref52_symmetricL0_2 : SC := (.reg [o 13 (.mv (.t 6)), o 14 (.bin .add (.t 13) (ki 1)), o 6 (.mv (.t 14))])
abbrev c_ref52_symmetricL0_1 : SC := .seq (.block 1 (.reg [o 15 (.mv (.t 5)), o 16 (.mv (.t 0)), o 17 (.mks (.t 16) 1 [I 0]), o 18 (.mkl 1 1 [.nils] [(0, (1, .t 17))]), o 19 (.app (.t 15) (.t 18) 1), o 5 (.mv (.t 19))])) c_ref52_symmetricL0_2
abbrev c_ref52_symmetricL0_0 : SC := .seq (.seq (.reg [o 10 (.mv (.t 6)), o 11 (.mv (.t 0)), o 12 (.bin .lss (.t 10) (.t 11))]) (.cond (.t 12) .skip (.exit 0))) c_ref52_symmetricL0_1
abbrev c_ref52_symmetricL2_2 : SC := (.reg [o 29 (.mv (.t 9)), o 30 (.bin .add (.t 29) (ki 1)), o 9 (.mv (.t 30))])
abbrev c_ref52_symmetricL2_1 : SC := .seq (.block 5 (.seq (.reg [o 31 (.mv (.t 5)), o 32 (.mv (.t 8)), o 33 (.iadr (.t 31) (.t 32) 1), o 35 (.mv (.t 9)), o 36 (.mv (.t 1)), o 37 (.mv (.t 7)), o 38 (.iadr (.t 36) (.t 37) 1), o 34 (.ld (.t 33) 1 false), o 39 (.ld (.t 38) 1 false), o 40 (.iadr (.t 34) (.t 35) 1), os (.st (.t 40) (.t 39) 1)]) (.seq (.reg [o 41 (.mv (.t 5)), o 42 (.mv (.t 9)), o 43 (.iadr (.t 41) (.t 42) 1), o 45 (.mv (.t 8)), o 46 (.mv (.t 1)), o 47 (.mv (.t 7)), o 48 (.iadr (.t 46) (.t 47) 1), o 44 (.ld (.t 43) 1 false), o 49 (.ld (.t 48) 1 false), o 50 (.iadr (.t 44) (.t 45) 1), os (.st (.t 50) (.t 49) 1)]) (.reg [o 51 (.mv (.t 7)), o 52 (.bin .add (.t 51) (ki 1)), o 7 (.mv (.t 52))])))) c_ref52_symmetricL2_2
abbrev c_ref52_symmetricL2_0 : SC := .seq (.seq (.reg [o 26 (.mv (.t 9)), o 27 (.mv (.t 0)), o 28 (.bin .lss (.t 26) (.t 27))]) (.cond (.t 28) .skip (.exit 4))) c_ref52_symmetricL2_1
abbrev c_ref52_symmetricL1_2 : SC := (.reg [o 23 (.mv (.t 8)), o 24 (.bin .add (.t 23) (ki 1)), o 8 (.mv (.t 24))])
abbrev c_ref52_symmetricL1_1 : SC := .seq (.block 3 (.seq (.reg [o 25 (.mv (.t 8)), o 9 (.mv (.t 25))]) (.block 4 (.loop c_ref52_symmetricL2_0)))) c_ref52_symmetricL1_2
abbrev c_ref52_symmetricL1_0 : SC := .seq (.seq (.reg [o 20 (.mv (.t 8)), o 21 (.mv (.t 0)), o 22 (.bin .lss (.t 20) (.t 21))]) (.cond (.t 22) .skip (.exit 2))) c_ref52_symmetricL1_1
abbrev c_ref52_symmetric_6 : SC := .ret
abbrev c_ref52_symmetric_5 : SC := .seq (.reg [o 53 (.mv (.t 5)), o 4 (.mv (.t 53))]) c_ref52_symmetric_6
abbrev c_ref52_symmetric_4 : SC := .seq (.seq (.reg [o 8 (.mv (ki 0))]) (.block 2 (.loop c_ref52_symmetricL1_0))) c_ref52_symmetric_5
abbrev c_ref52_symmetric_3 : SC := .seq (.reg [o 7 (.mv (ki 0))]) c_ref52_symmetric_4
abbrev c_ref52_symmetric_2 : SC := .seq (.seq (.reg [o 6 (.mv (ki 0))]) (.block 0 (.loop c_ref52_symmetricL0_0))) c_ref52_symmetric_3
abbrev c_ref52_symmetric_1 : SC := .seq (.reg [o 5 (.mv (.k .nils))]) c_ref52_symmetric_2
abbrev c_ref52_symmetric_0 : SC := .seq (.reg [o 4 (.mv (.k .nils))]) c_ref52_symmetric_1
theorem cf_ref52_symmetric : cfun Go.Proofs.Try.prog md n_ref52_symmetric = some ⟨2, 54, c_ref52_symmetric_0.erase, [.t 4]⟩ := by kernel_rfl
-- ref52_Message
abbrev c_ref52_MessageL1_2 : SC := (.reg [o 67 (.mv (.t 11)), o 68 (.bin .add (.t 67) (ki 1)), o 11 (.mv (.t 68))])
abbrev c_ref52_MessageL1_1 : SC := .seq (.block 3 (.seq (.reg [o 69 (.mv (.t 9)), o 70 (.fadr (.t 2) 4), o 71 (.ld (.t 70) 1 false), o 72 (.bin .lss (.t 69) (.t 71)), o 73 (.mv (.t 72)), og 73 true 0 74 (.mv (.t 11)), og 73 true 0 75 (.fadr (.t 2) 4), og 73 true 0 76 (.ld (.t 75) 1 false), og 73 true 0 77 (.bin .lss (.t 74) (.t 76)), o 78 (.pick (.t 73) (.t 77) (kb false))]) (.cond (.t 78) (.reg [o 79 (.mv (.t 10)), o 80 (.mv (.t 11)), o 81 (.mv (.t 6)), o 82 (.mv (.t 9)), o 83 (.iadr (.t 81) (.t 82) 1), o 84 (.ld (.t 83) 1 false), o 85 (.mv (.t 11)), o 86 (.iadr (.t 84) (.t 85) 1), o 87 (.ld (.t 86) 1 false), o 88 (.iadr (.t 79) (.t 80) 1), os (.st (.t 88) (.t 87) 1)]) (.seq (.reg [o 89 (.mv (.t 9)), o 90 (.fadr (.t 2) 4), o 91 (.ld (.t 90) 1 false), o 92 (.bin .lss (.t 89) (.t 91))]) (.cond (.t 92) (.reg [o 93 (.mv (.t 10)), o 94 (.mv (.t 11)), o 95 (.mv (.t 7)), o 96 (.mv (.t 9)), o 97 (.fadr (.t 2) 5), o 98 (.ld (.t 97) 1 false), o 99 (.fadr (.t 2) 4), o 100 (.ld (.t 99) 1 false), o 101 (.bin .sub (.t 98) (.t 100)), o 102 (.bin .mul (.t 96) (.t 101)), o 103 (.mv (.t 11)), o 104 (.bin .add (.t 102) (.t 103)), o 105 (.fadr (.t 2) 4), o 106 (.ld (.t 105) 1 false), o 107 (.bin .sub (.t 104) (.t 106)), o 108 (.iadr (.t 95) (.t 107) 1), o 109 (.ld (.t 108) 1 false), o 110 (.iadr (.t 93) (.t 94) 1), os (.st (.t 110) (.t 109) 1)]) (.seq (.reg [o 111 (.mv (.t 11)), o 112 (.fadr (.t 2) 4), o 113 (.ld (.t 112) 1 false), o 114 (.bin .lss (.t 111) (.t 113))]) (.cond (.t 114) (.reg [o 115 (.mv (.t 10)), o 116 (.mv (.t 11)), o 117 (.mv (.t 7)), o 118 (.mv (.t 11)), o 119 (.fadr (.t 2) 5), o 120 (.ld (.t 119) 1 false), o 121 (.fadr (.t 2) 4), o 122 (.ld (.t 121) 1 false), o 123 (.bin .sub (.t 120) (.t 122)), o 124 (.bin .mul (.t 118) (.t 123)), o 125 (.mv (.t 9)), o 126 (.bin .add (.t 124) (.t 125)), o 127 (.fadr (.t 2) 4), o 128 (.ld (.t 127) 1 false), o 129 (.bin .sub (.t 126) (.t 128)), o 130 (.iadr (.t 117) (.t 129) 1), o 131 (.ld (.t 130) 1 false), o 132 (.iadr (.t 115) (.t 116) 1), os (.st (.t 132) (.t 131) 1)]) .skip))))))) c_ref52_MessageL1_2
abbrev c_ref52_MessageL1_0 : SC := .seq (.seq (.reg [o 63 (.mv (.t 11)), o 64 (.fadr (.t 2) 5), o 65 (.ld (.t 64) 1 false), o 66 (.bin .lss (.t 63) (.t 65))]) (.cond (.t 66) .skip (.exit 2))) c_ref52_MessageL1_1
abbrev c_ref52_MessageL0_2 : SC := (.reg [o 58 (.mv (.t 9)), o 59 (.bin .add (.t 58) (ki 1)), o 9 (.mv (.t 59))])
abbrev c_ref52_MessageL0_1 : SC := .seq (.block 1 (.seq (.reg [o 60 (.fadr (.t 2) 5), o 61 (.ld (.t 60) 1 false), o 62 (.mks (.t 61) 1 [I 0]), o 10 (.mv (.t 62))]) (.seq (.seq (.reg [o 11 (.mv (ki 0))]) (.block 2 (.loop c_ref52_MessageL1_0))) (.reg [o 133 (.mv (.t 8)), o 134 (.mv (.t 10)), o 135 (.mkl 1 1 [.nils] [(0, (1, .t 134))]), o 136 (.app (.t 133) (.t 135) 1), o 8 (.mv (.t 136))])))) c_ref52_MessageL0_2
abbrev c_ref52_MessageL0_0 : SC := .seq (.seq (.reg [o 54 (.mv (.t 9)), o 55 (.fadr (.t 2) 5), o 56 (.ld (.t 55) 1 false), o 57 (.bin .lss (.t 54) (.t 56))]) (.cond (.t 57) .skip (.exit 0))) c_ref52_MessageL0_1
abbrev c_ref52_Message_7 : SC := .ret
abbrev c_ref52_Message_6 : SC := .seq (.reg [o 137 (.mv (.t 8)), o 4 (.mv (.t 137))]) c_ref52_Message_7
abbrev c_ref52_Message_5 : SC := .seq (.seq (.reg [o 9 (.mv (ki 0))]) (.block 0 (.loop c_ref52_MessageL0_0))) c_ref52_Message_6
abbrev c_ref52_Message_4 : SC := .seq (.reg [o 8 (.mv (.k .nils))]) c_ref52_Message_5
abbrev c_ref52_Message_3 : SC := .seq (.reg [o 45 (.mv (.t 1)), o 46 (.fadr (.t 2) 4), o 47 (.ld (.t 46) 1 false), o 48 (.fadr (.t 2) 4), o 49 (.ld (.t 48) 1 false), o 50 (.bin .add (.t 49) (ki 1)), o 51 (.bin .mul (.t 47) (.t 50)), o 52 (.bin .quo (.t 51) (ki 2)), o 53 (.slc (.t 45) (some (.t 52)) none none 1), o 7 (.mv (.t 53))]) c_ref52_Message_4
abbrev c_ref52_Message_2 : SC := .seq (.reg [o 33 (.fadr (.t 2) 4), o 35 (.mv (.t 1)), o 36 (.fadr (.t 2) 4), o 38 (.fadr (.t 2) 4), o 34 (.ld (.t 33) 1 false), o 37 (.ld (.t 36) 1 false), o 39 (.ld (.t 38) 1 false), o 40 (.bin .add (.t 39) (ki 1)), o 41 (.bin .mul (.t 37) (.t 40)), o 42 (.bin .quo (.t 41) (ki 2)), o 43 (.slc (.t 35) none (some (.t 42)) none 1), om 2 44 (.call (.f n_ref52_symmetric) [.t 34, .t 43]), o 6 (.mv (.t 44))]) c_ref52_Message_3
abbrev c_ref52_Message_1 : SC := .seq (.seq (.reg [o 12 (.fadr (.t 2) 3), o 13 (.ld (.t 12) 1 false), o 14 (.bin .eql (.t 13) (ki 1))]) (.cond (.t 14) (.seq (.reg [o 15 (.mv (.t 1)), o 16 (.len (.t 15)), o 17 (.bin .quo (.t 16) (ki 2)), o 5 (.mv (.t 17))]) (.seq (.reg [o 18 (.fadr (.t 2) 4), o 21 (.mv (.t 1)), o 22 (.mv (.t 5)), o 23 (.slc (.t 21) none (some (.t 22)) none 1), o 25 (.fadr (.t 2) 4), o 28 (.mv (.t 1)), o 29 (.mv (.t 5)), o 30 (.slc (.t 28) (some (.t 29)) none none 1), o 19 (.ld (.t 18) 1 false), o 20 (.bin .sub (.t 19) (ki 1)), o 26 (.ld (.t 25) 1 false), o 27 (.bin .sub (.t 26) (ki 1)), om 2 24 (.call (.f n_ref52_symmetric) [.t 20, .t 23]), om 2 31 (.call (.f n_ref52_symmetric) [.t 27, .t 30]), o 32 (.app (.t 24) (.t 31) 1), o 4 (.mv (.t 32))]) .ret)) .skip)) c_ref52_Message_2
abbrev c_ref52_Message_0 : SC := .seq (.reg [o 2 (.box (.t 0)), o 4 (.mv (.k .nils))]) c_ref52_Message_1
theorem cf_ref52_Message : cfun Go.Proofs.Try.prog md n_ref52_Message = some ⟨2, 138, c_ref52_Message_0.erase, [.t 4]⟩ := by kernel_rfl
-- ref52_Encode
abbrev c_ref52_EncodeL0_2 : SC := (.reg [o 23 (.mv (.t 9)), o 24 (.bin .add (.t 23) (ki 1)), o 9 (.mv (.t 24))])
abbrev c_ref52_EncodeL0_1 : SC := .seq (.block 1 (.reg [o 25 (.mv (.t 8)), o 26 (.fadr (.t 2) 0), o 29 (.mv (.t 9)), o 31 (.mv (.t 5)), o 32 (.mv (.t 7)), o 27 (.ld (.t 26) 3 true), o 28 (.ld (.t 2) 7 true), om 1 30 (.call (.f n_ref52_Vector) [.t 28, .t 29]), om 1 33 (.call (.f n_ref09_Combine) [.t 27, .t 30, .t 31, .t 32]), o 34 (.mkl 1 1 [.nils] [(0, (1, .t 33))]), o 35 (.app (.t 25) (.t 34) 1), o 8 (.mv (.t 35))])) c_ref52_EncodeL0_2
abbrev c_ref52_EncodeL0_0 : SC := .seq (.seq (.reg [o 18 (.mv (.t 9)), o 19 (.fadr (.t 2) 6), o 20 (.ld (.t 19) 1 false), o 21 (.len (.t 20)), o 22 (.bin .lss (.t 18) (.t 21))]) (.cond (.t 22) .skip (.exit 0))) c_ref52_EncodeL0_1
abbrev c_ref52_Encode_6 : SC := .ret
abbrev c_ref52_Encode_5 : SC := .seq (.reg [o 36 (.mv (.t 8)), o 4 (.mv (.t 36))]) c_ref52_Encode_6
abbrev c_ref52_Encode_4 : SC := .seq (.seq (.reg [o 9 (.mv (ki 0))]) (.block 0 (.loop c_ref52_EncodeL0_0))) c_ref52_Encode_5
abbrev c_ref52_Encode_3 : SC := .seq (.reg [o 8 (.mv (.k .nils))]) c_ref52_Encode_4
abbrev c_ref52_Encode_2 : SC := .seq (.reg [o 14 (.ld (.t 2) 7 true), o 15 (.call (.f n_ref52_Size) [.t 14]), o 13 (.mv (.t 15)), o 16 (.ext (.t 13) 0), o 17 (.ext (.t 13) 1), o 6 (.mv (.t 16)), o 7 (.mv (.t 17))]) c_ref52_Encode_3
abbrev c_ref52_Encode_1 : SC := .seq (.reg [o 10 (.ld (.t 2) 7 true), o 11 (.mv (.t 1)), o 12 (.call (.f n_ref52_Message) [.t 10, .t 11]), o 5 (.mv (.t 12))]) c_ref52_Encode_2
abbrev c_ref52_Encode_0 : SC := .seq (.reg [o 2 (.box (.t 0)), o 4 (.mv (.k .nils))]) c_ref52_Encode_1
theorem cf_ref52_Encode : cfun Go.Proofs.Try.prog md n_ref52_Encode = some ⟨2, 37, c_ref52_Encode_0.erase, [.t 4]⟩ := by kernel_rfl
-- law52_RegenerateEncodes
abbrev c_law52_RegenerateEncodes_7 : SC := .ret
abbrev c_law52_RegenerateEncodes_6 : SC := .seq (.reg [o 44 (.mv (.t 6)), o 45 (.bin .eql (.t 44) (ki 0)), o 46 (.mv (.t 45)), og 46 true 0 47 (.mv (.t 5)), og 46 true 0 48 (.ld (.t 2) 7 true), og 46 true 0 49 (.mv (.t 1)), og 46 true 0 50 (.call (.f n_ref52_Encode) [.t 48, .t 49]), og 46 true 0 51 (.call (.f n_ref09_SameRows) [.t 47, .t 50]), o 52 (.pick (.t 46) (.t 51) (kb false)), o 4 (.mv (.t 52))]) c_law52_RegenerateEncodes_7
abbrev c_law52_RegenerateEncodes_5 : SC := .seq (.seq (.reg [o 34 (.mv (.t 7)), o 35 (.bin .neq (.t 34) (ki 0))]) (.cond (.t 35) (.seq (.reg [o 36 (.mv (.t 6)), o 37 (.mv (.t 7)), o 38 (.bin .eql (.t 36) (.t 37)), o 39 (.mv (.t 38)), og 39 true 0 40 (.mv (.t 5)), og 39 true 0 41 (.len (.t 40)), og 39 true 0 42 (.bin .eql (.t 41) (ki 0)), o 43 (.pick (.t 39) (.t 42) (kb false)), o 4 (.mv (.t 43))]) .ret) .skip)) c_law52_RegenerateEncodes_6
abbrev c_law52_RegenerateEncodes_4 : SC := .seq (.seq (.reg [o 22 (.mv (.t 7)), o 23 (.bin .eql (.t 22) (ki 0))]) (.cond (.t 23) (.seq (.reg [o 25 (.ld (.t 2) 7 true), o 26 (.call (.f n_ref52_Size) [.t 25]), o 24 (.mv (.t 26)), o 27 (.ext (.t 24) 0), o 28 (.ext (.t 24) 1), o 8 (.mv (.t 27)), o 9 (.mv (.t 28))]) (.reg [o 29 (.fadr (.t 2) 0), o 30 (.ld (.t 29) 3 true), o 31 (.mv (.t 1)), o 32 (.mv (.t 8)), o 33 (.call (.f n_ref12_List) [.t 30, .t 31, .t 32]), o 7 (.mv (.t 33))])) .skip)) c_law52_RegenerateEncodes_5
abbrev c_law52_RegenerateEncodes_3 : SC := .seq (.reg [o 20 (.ld (.t 2) 7 true), o 21 (.call (.f n_ref52_Check) [.t 20]), o 7 (.mv (.t 21))]) c_law52_RegenerateEncodes_4
abbrev c_law52_RegenerateEncodes_2 : SC := .seq (.reg [o 15 (.ld (.t 2) 7 true), o 16 (.mv (.t 1)), o 17 (.call (.f n_regenerate_Encode) [.t 15, .t 16]), o 14 (.mv (.t 17)), o 18 (.ext (.t 14) 0), o 19 (.ext (.t 14) 1), o 5 (.mv (.t 18)), o 6 (.mv (.t 19))]) c_law52_RegenerateEncodes_3
abbrev c_law52_RegenerateEncodes_1 : SC := .seq (.seq (.reg [o 10 (.fadr (.t 2) 6), o 11 (.ld (.t 10) 1 false), o 12 (.len (.t 11)), o 13 (.bin .gtr (.t 12) (ki 12))]) (.cond (.t 13) (.seq (.reg [o 4 (.mv (kb true))]) .ret) .skip)) c_law52_RegenerateEncodes_2
abbrev c_law52_RegenerateEncodes_0 : SC := .seq (.reg [o 2 (.box (.t 0)), o 4 (.mv (kb false))]) c_law52_RegenerateEncodes_1
theorem cf_law52_RegenerateEncodes : cfun Go.Proofs.Try.prog md n_law52_RegenerateEncodes = some ⟨2, 53, c_law52_RegenerateEncodes_0.erase, [.t 4]⟩ := by kernel_rfl
end Go.AM.Ytmihmgnjnedfcaa
end

section
/- Contracts of functions: square, symmetric. -/
set_option maxRecDepth 100000
set_option linter.unusedSimpArgs false
set_option linter.unusedVariables false
namespace Go.AM.Ytmihmgnjnedfcaa
open Go Go.AM
attribute [local simp ↓] awp_seq awp_reg awp_skip awp_cond' awp_block awp_exit awp_ret awp_fz thenW_normal thenW_exit thenW_ret inBlk_normal inBlk_exit inBlk_ret aops_cons' contA_ap aops_nil e_mv e_guard' e_pick' e_ld' e_app e_cpy e_st' e_call callW_f updO_some updO_none e_bin' e_isnil' e_fadr' e_iadr' e_iarr' e_len' e_build' e_mkf' e_nc' e_not' e_neg' e_cvt' e_slc' e_fld' e_ext' e_min' e_eqs' e_new e_box e_mkl e_mks
attribute [local simp] upd_apply ev_t ev_k ev_f binA_add binA_sub binA_mul binA_quo binA_rem binA_eql binA_neq binA_lss binA_leq binA_gtr binA_geq det mem frame0 keeps_nil iadrA_sl fadrA_ref fadrA_fp ldv_agg ldv_one cells_base hset_same hset_hset lenA_fs lenA_sl lenA_nils zeros_ints ints_length one_base one_nilp one_nils one_ref one_sl one_fp one_fs one_fn gl_one resA resOf bound natOf afill splice AV.cells cells_agg bindR_some condR_true condR_false guardR_tup guardR_true guardR_true' guardR_false guardR_false' allocW_some pickA_true pickA_false
open Go.FM

theorem w_square {r c : Nat} (hr : 0 < r) (hr2 : r ≤ 65536) (hc : c ≤ 65536) (h : Hp) : Spec prog n_regenerate_square [I r, I c] h (LiveM h (matF r c fun _ _ => 0)) := by
  refine spec_of cf_regenerate_square rfl ?_
  have hc4 : (c : Int) ≤ 4294967296 := by omega
  simp
  refine awp_for r (fun k fr' h' => GrM h h' (fr' 5) (List.replicate k (List.replicate c 0)) ∧ fr' 7 = I k) ⟨by simpa using GrM.nils h, by simp⟩ ?_
  intro k fr' h' hkn hk ⟨g, k7⟩
  have k1 := hk 1 (by decide)
  have k6 := hk 6 (by decide)
  simp at k1 k6
  clear hk
  by_cases hlt : k < r
  · have u1 : IntKind.i64.wrap ((k : Int) + 1) = k + 1 := w64 _ (by omega)
    simp [k1, k6, k7, hlt, hc4]
    intro b1 hb1 b2 hb2
    have ap := fun R => (g.new hb1 (List.replicate c 0)).app (R := R) hb2 (by simp; omega)
    rw [List.length_replicate] at ap
    refine ap _ fun v' h3 g3 => ?_
    rw [matF_zero_snoc] at g3
    simp [k7, u1, hlt]
    exact g3
  · have : k = r := by omega
    subst this
    simp [k6, k7]
    rw [matF_zero]
    exact g.live (by simpa using hr)

/-- Where the row k of a symmetric matrix begins in the list of its entries. -/
def bas (n : Nat) : Nat → Nat
  | 0 => 0
  | k + 1 => bas n k + (n - k)
theorem bas_mono {n : Nat} {a b : Nat} (h : a ≤ b) : bas n a ≤ bas n b := by
  induction h with
  | refl => exact Nat.le_refl _
  | step _ ih => simp only [bas]; omega
def ixS (n i j : Nat) : Nat := bas n i + (j - i)
/-- The symmetric matrix filled up to the entry (k, j). -/
def eS (n : Nat) (l : List Int) (e : Nat → Nat → Int) (k j : Nat) : Nat → Nat → Int := fun a b =>
  if a < n ∧ b < n ∧ (min a b < k ∨ (min a b = k ∧ max a b < j)) then l.getD (ixS n (min a b) (max a b)) 0 else e a b

theorem eS_step {n : Nat} {l : List Int} {e : Nat → Nat → Int} {k j : Nat} (hk : k ≤ j) (hj : j < n) (a b : Nat) :
    upd2 (upd2 (eS n l e k j) k j (l.getD (ixS n k j) 0)) j k (l.getD (ixS n k j) 0) a b = eS n l e k (j + 1) a b := by
  unfold upd2 eS
  by_cases h1 : a = j ∧ b = k
  · obtain ⟨rfl, rfl⟩ := h1
    have e1 : min a b = b := by omega
    have e2 : max a b = a := by omega
    rw [if_pos ⟨rfl, rfl⟩, e1, e2, if_pos (by omega)]
  · rw [if_neg h1]
    by_cases h2 : a = k ∧ b = j
    · obtain ⟨rfl, rfl⟩ := h2
      have e1 : min a b = a := by omega
      have e2 : max a b = b := by omega
      rw [if_pos ⟨rfl, rfl⟩, e1, e2, if_pos (by omega)]
    · rw [if_neg h2]
      by_cases h3 : a < n ∧ b < n ∧ (min a b < k ∨ (min a b = k ∧ max a b < j))
      · rw [if_pos h3, if_pos (by omega)]
      · rw [if_neg h3, if_neg (by omega)]
theorem eS_row {n : Nat} {l : List Int} {e : Nat → Nat → Int} {k : Nat} (hk : k < n) (a b : Nat) : eS n l e k n a b = eS n l e (k + 1) (k + 1) a b := by
  unfold eS
  by_cases h3 : a < n ∧ b < n ∧ (min a b < k ∨ (min a b = k ∧ max a b < n))
  · rw [if_pos h3, if_pos (by omega)]
  · rw [if_neg h3, if_neg (by omega)]
theorem eS_row0 {n : Nat} {l : List Int} {e : Nat → Nat → Int} {k : Nat} (a b : Nat) : eS n l e k k a b = if a < n ∧ b < n ∧ min a b < k then l.getD (ixS n (min a b) (max a b)) 0 else e a b := by
  unfold eS
  by_cases h3 : a < n ∧ b < n ∧ min a b < k
  · rw [if_pos h3, if_pos (by omega)]
  · rw [if_neg h3, if_neg (by omega)]

set_option maxHeartbeats 2000000 in
theorem w_symmetric {h : Hp} {o : Nat} {bs : Nat → Nat} {r c : Nat} {e : Nat → Nat → Int} (m : LM h o bs (matF r c e)) {n : Nat} (hn : n ≤ r) (hn2 : n ≤ c) (hn3 : n ≤ 65536) {v : AV} {l : List Int} (hv : IL v l) (hl : bas n n ≤ l.length) (hl2 : l.length < 4611686018427387904) :
    Spec prog n_regenerate_symmetric [.sl o 0 r 1, I n, v] h (fun w h' => IL w (l.drop (bas n n)) ∧ Only bs r h h' ∧ LM h' o bs (matF r c (eS n l e n n))) := by
  refine spec_of cf_regenerate_symmetric rfl ?_
  unfold c_regenerate_symmetric_0 c_regenerate_symmetric_1
  generalize hC : c_regenerate_symmetric_2 = C2
  simp
  refine awp_for n (fun k fr' h' => ∃ w, IL w (l.drop (bas n k)) ∧ Only bs r h h' ∧ LM h' o bs (matF r c (eS n l e k k)) ∧ fr' 2 = w ∧ fr' 10 = I k)
    ⟨v, by simpa [bas] using hv, Only.refl _ _ _, by rw [matF_congr (e' := e) fun a b _ _ => by rw [eS_row0, if_neg (by omega)]]; exact m, by simp, by simp⟩ ?_
  intro k fr' h' hkn hk ⟨w, hw, ho, hm, k2, k10⟩
  have k0 := hk 0 (by decide)
  have k1 := hk 1 (by decide)
  have k9 := hk 9 (by decide)
  simp at k0 k1 k9
  clear hk
  by_cases hlt : k < n
  · have u1 : IntKind.i64.wrap ((k : Int) + 1) = k + 1 := w64 _ (by omega)
    unfold c_regenerate_symmetricL0_0 c_regenerate_symmetricL0_1 c_regenerate_symmetricL0_2
    generalize hC3 : c_regenerate_symmetricL0_3 = C3
    simp [k0, k1, k9, k10, hlt]
    refine awp_for (n - k) (fun t fr2 h2 => ∃ w, IL w (l.drop (bas n k + t)) ∧ Only bs r h h2 ∧ LM h2 o bs (matF r c (eS n l e k (k + t))) ∧ fr2 2 = w ∧ fr2 8 = I ((k + t : Nat) : Int))
      ⟨w, hw, ho, hm, by simp [k2], by simp [k10]⟩ ?_
    intro t fr2 h2 htn hk2 ⟨w2, hw2, ho2, hm2, m2, m8⟩
    have m0 := hk2 0 (by decide)
    have m1 := hk2 1 (by decide)
    have m7 := hk2 7 (by decide)
    have m9 := hk2 9 (by decide)
    have m10 := hk2 10 (by decide)
    simp [k0, k1, k9, k10] at m0 m1 m7 m9 m10
    clear hk2
    have hbl : bas n k + (n - k) ≤ bas n n := bas_mono (n := n) (a := k + 1) (b := n) (by omega)
    by_cases htl : t < n - k
    · have hj : k + t < n := by omega
      have hjc : ((k + t : Nat) : Int) < (n : Int) := by omega
      have hjc2 : (k : Int) + (t : Int) < (n : Int) := by omega
      have hrl1 := hm2.ld (i := k) (by rw [matF_len]; omega)
      have hrl2 := hm2.ld (i := k + t) (by rw [matF_len]; omega)
      rw [matF_rlen (by omega)] at hrl1 hrl2
      have hwl : (l.drop (bas n k + t)).length = l.length - (bas n k + t) := by simp
      have hia := hw2.iadr (i := 0) ⟨by omega, by omega⟩
      have hld := fun h' => ld_ints (h := h') (l := l.drop (bas n k + t)) (k := 0) (by omega)
      have hval : (l.drop (bas n k + t)).getD 0 0 = l.getD (ixS n k (k + t)) 0 := by
        simp [List.getD, ixS]
      rw [hval] at hld
      simp only [Int.toNat_zero] at hia
      obtain ⟨l1, hm3, hst1⟩ := hm2.setF (i := k) (j := k + t) (by omega) (by omega) (l.getD (ixS n k (k + t)) 0)
      obtain ⟨l2, hm4, hst2⟩ := hm3.setF (i := k + t) (j := k) (by omega) (by omega) (l.getD (ixS n k (k + t)) 0)
      rw [matF_congr fun a b _ _ => eS_step (by omega) hj a b] at hm4
      have ho4 := (ho2.put (i := k) (by omega) (ints l1)).put (i := k + t) (by omega) (ints l2)
      have hsl := hw2.slcN (lo := 1) (hi := (l.drop (bas n k + t)).length) (by omega) (Nat.le_refl _)
      have hsv := hw2.slv (lo := 1) (hi := (l.drop (bas n k + t)).length) (by omega) (Nat.le_refl _)
      rw [List.take_of_length_le (by simp; omega), List.drop_drop] at hsv
      have hln := hw2.len
      have u2 : IntKind.i64.wrap ((k : Int) + (t : Int) + 1) = ((k + (t + 1) : Nat) : Int) := by rw [w64 _ (by omega)]; omega
      have hkr : k < r := by omega
      have hkr2 : (k : Int) + (t : Int) < r := by omega
      have hkc : k < c := by omega
      have hkc2 : (k : Int) + (t : Int) < c := by omega
      have hnn : (0 : Int) ≤ (k : Int) + (t : Int) := by omega
      have hnt : ((k : Int) + (t : Int)).toNat = k + t := by omega
      have hlen1 : (1 : Int) ≤ ((l.drop (bas n k + t)).length : Int) := by omega
      generalize l.getD (ixS n k (k + t)) 0 = y at *
      generalize l.drop (bas n k + t) = lw at *
      have hwlen : lw.length = l.length - (bas n k + t) := hwl
      clear hwl hval
      simp only [List.drop_zero] at hia hld
      simp [m0, m1, m2, m7, m8, hjc, hjc2, hkr, hkr2, hkc, hkc2, hnn, hnt, hrl1, hrl2, hia, hld, hst1, hst2, htl, hln, hlen1, hsl, u2]
      exact ⟨_, hsv, ho4, hm4, rfl⟩
    · have : t = n - k := by omega
      subst this
      have e1 : k + (n - k) = n := by omega
      rw [e1] at hm2 m8
      simp [m1, m8]
      subst hC3
      simp [m10, u1, hlt]
      refine ⟨w2, by simpa [bas] using hw2, ho2, ?_, by simpa using m2⟩
      rw [matF_congr fun a b _ _ => eS_row hlt a b] at hm2
      exact hm2
  · have : k = n := by omega
    subst this
    subst hC
    simp [k9, k10, k2]
    exact ⟨hw, ho, hm⟩
end Go.AM.Ytmihmgnjnedfcaa
end

section
/- Contracts of functions: the reference's symmetric; rows. -/
set_option maxRecDepth 100000
set_option linter.unusedSimpArgs false
set_option linter.unusedVariables false
namespace Go.AM.Ytmihmgnjnedfcaa
open Go Go.AM
attribute [local simp ↓] awp_seq awp_reg awp_skip awp_cond' awp_block awp_exit awp_ret awp_fz thenW_normal thenW_exit thenW_ret inBlk_normal inBlk_exit inBlk_ret aops_cons' contA_ap aops_nil e_mv e_guard' e_pick' e_ld' e_app e_cpy e_st' e_call callW_f updO_some updO_none e_bin' e_isnil' e_fadr' e_iadr' e_iarr' e_len' e_build' e_mkf' e_nc' e_not' e_neg' e_cvt' e_slc' e_fld' e_ext' e_min' e_eqs' e_new e_box e_mkl e_mks
attribute [local simp] upd_apply ev_t ev_k ev_f binA_add binA_sub binA_mul binA_quo binA_rem binA_eql binA_neq binA_lss binA_leq binA_gtr binA_geq det mem frame0 keeps_nil iadrA_sl fadrA_ref fadrA_fp ldv_agg ldv_one cells_base hset_same hset_hset lenA_fs lenA_sl lenA_nils zeros_ints ints_length one_base one_nilp one_nils one_ref one_sl one_fp one_fs one_fn gl_one resA resOf bound natOf afill splice AV.cells cells_agg bindR_some condR_true condR_false guardR_tup guardR_true guardR_true' guardR_false guardR_false' allocW_some pickA_true pickA_false
open Go.FM

/-- The symmetric matrix of a list. -/
def symL (n : Nat) (l : List Int) : List (List Int) := matF n n fun a b => l.getD (ixS n (min a b) (max a b)) 0

set_option maxHeartbeats 2000000 in
theorem w_refSymmetric {n : Nat} (hn : 0 < n) (hn3 : n ≤ 65536) {v : AV} {l : List Int} (hv : IL v l) (hl : bas n n ≤ l.length) (hl2 : l.length < 4611686018427387904) (h : Hp) :
    Spec prog n_ref52_symmetric [I n, v] h (LiveM h (symL n l)) := by
  refine spec_of cf_ref52_symmetric rfl ?_
  have hn4 : (n : Int) ≤ 4294967296 := by omega
  unfold c_ref52_symmetric_0 c_ref52_symmetric_1 c_ref52_symmetric_2
  generalize hC : c_ref52_symmetric_3 = C2
  simp
  refine awp_for n (fun k fr' h' => GrM h h' (fr' 5) (List.replicate k (List.replicate n 0)) ∧ fr' 6 = I k) ⟨by simpa using GrM.nils h, by simp⟩ ?_
  intro k fr' h' hkn hk ⟨g, k6⟩
  have k0 := hk 0 (by decide)
  have k1 := hk 1 (by decide)
  simp at k0 k1
  clear hk
  by_cases hlt : k < n
  · have u1 : IntKind.i64.wrap ((k : Int) + 1) = k + 1 := w64 _ (by omega)
    simp [k0, k6, hlt, hn4]
    intro b1 hb1 b2 hb2
    have ap := fun R => (g.new hb1 (List.replicate n 0)).app (R := R) hb2 (by simp; omega)
    rw [List.length_replicate] at ap
    refine ap _ fun v' h3 g3 => ?_
    rw [matF_zero_snoc] at g3
    simp [k6, u1, hlt]
    exact g3
  have : k = n := by omega
  subst this
  have lv := g.live (by simpa using hn)
  rw [← matF_zero] at lv
  obtain ⟨hkp, o, bs, hv5, hm, ho, hbs⟩ := lv
  rw [matF_len] at hv5 hbs
  generalize hA : h' = A at *
  clear hA
  simp [k0, k6]
  subst hC
  unfold c_ref52_symmetric_3 c_ref52_symmetric_4
  generalize hC : c_ref52_symmetric_5 = C2
  simp
  refine awp_for k (fun i fr' h' => Only bs k A h' ∧ LM h' o bs (matF k k (eS k l (fun _ _ => 0) i i)) ∧ fr' 7 = I (bas k i) ∧ fr' 8 = I i)
    ⟨Only.refl _ _ _, by rw [matF_congr (e' := fun _ _ => 0) fun a b _ _ => by rw [eS_row0, if_neg (by omega)]]; exact hm, by simp [bas], by simp⟩ ?_
  intro i fr2 h2 hin hk2 ⟨ho2, hm2, k7, k8⟩
  have m0 := hk2 0 (by decide)
  have m1 := hk2 1 (by decide)
  have m5 := hk2 5 (by decide)
  simp [k0, k1, hv5] at m0 m1 m5
  clear hk2
  by_cases hlt : i < k
  · have u1 : IntKind.i64.wrap ((i : Int) + 1) = i + 1 := w64 _ (by omega)
    unfold c_ref52_symmetricL1_0 c_ref52_symmetricL1_1
    generalize hC3 : c_ref52_symmetricL1_2 = C3
    simp [m0, m1, k8, hlt]
    refine awp_for (k - i) (fun t fr2 h2 => Only bs k A h2 ∧ LM h2 o bs (matF k k (eS k l (fun _ _ => 0) i (i + t))) ∧ fr2 7 = I ((bas k i + t : Nat) : Int) ∧ fr2 9 = I ((i + t : Nat) : Int))
      ⟨ho2, hm2, by simp [k7], by simp⟩ ?_
    intro t fr3 h3 htn hk3 ⟨ho3, hm3, n7, n9⟩
    have n0 := hk3 0 (by decide)
    have n1 := hk3 1 (by decide)
    have n5 := hk3 5 (by decide)
    have n8 := hk3 8 (by decide)
    simp [m0, m1, m5, k8] at n0 n1 n5 n8
    clear hk3
    have hbl : bas k i + (k - i) ≤ bas k k := bas_mono (n := k) (a := i + 1) (b := k) (by omega)
    by_cases htl : t < k - i
    · have hj : i + t < k := by omega
      have hjc2 : (i : Int) + (t : Int) < (k : Int) := by omega
      have hrl1 := hm3.ld (i := i) (by rw [matF_len]; omega)
      rw [matF_rlen (by omega)] at hrl1
      have hia := hv.iadr (i := ((bas k i + t : Nat) : Int)) ⟨by omega, by omega⟩
      have hld := fun h' => ld_ints (h := h') (l := l) (k := bas k i + t) (by omega)
      have hval : l.getD (bas k i + t) 0 = l.getD (ixS k i (i + t)) 0 := by
        simp [ixS]
      rw [hval] at hld
      rw [Int.toNat_natCast] at hia
      obtain ⟨l1, hm4, hst1⟩ := hm3.setF (i := i) (j := i + t) (by omega) (by omega) (l.getD (ixS k i (i + t)) 0)
      have hrl2 := hm4.ld (i := i + t) (by rw [matF_len]; omega)
      rw [matF_rlen (by omega)] at hrl2
      obtain ⟨l2, hm5, hst2⟩ := hm4.setF (i := i + t) (j := i) (by omega) (by omega) (l.getD (ixS k i (i + t)) 0)
      rw [matF_congr fun a b _ _ => eS_step (by omega) hj a b] at hm5
      have ho4 := (ho3.put (i := i) (by omega) (ints l1)).put (i := i + t) (by omega) (ints l2)
      have u2 : IntKind.i64.wrap ((i : Int) + (t : Int) + 1) = ((i + (t + 1) : Nat) : Int) := by rw [w64 _ (by omega)]; omega
      have u3 : IntKind.i64.wrap ((bas k i : Int) + (t : Int) + 1) = ((bas k i + (t + 1) : Nat) : Int) := by rw [w64 _ (by omega)]; omega
      have hnn : (0 : Int) ≤ (i : Int) + (t : Int) := by omega
      have hnt : ((i : Int) + (t : Int)).toNat = i + t := by omega
      push_cast at hia
      generalize l.getD (ixS k i (i + t)) 0 = y at *
      clear hval
      simp [n0, n1, n5, n7, n8, n9, hjc2, hlt, hnn, hnt, hrl1, hrl2, hia, hld, hst1, hst2, htl, u2, u3]
      exact ⟨ho4, hm5⟩
    · have : t = k - i := by omega
      subst this
      have e1 : i + (k - i) = k := by omega
      rw [e1] at hm3 n9
      simp [n0, n9]
      subst hC3
      simp [n8, u1, hlt]
      refine ⟨ho3, ?_, by simpa [bas] using n7⟩
      rw [matF_congr fun a b _ _ => eS_row hlt a b] at hm3
      exact hm3
  · have : i = k := by omega
    subst this
    subst hC
    simp [k8, m0, m5]
    rw [matF_congr (e' := fun a b => l.getD (ixS i (min a b) (max a b)) 0) fun a b ha hb => by rw [eS_row0, if_pos (by omega)]] at hm2
    exact ⟨ho2.kp hkp hbs, o, bs, by simp [symL, matF_len], hm2, ho, by simpa [symL, matF_len] using hbs⟩

theorem s_rows {D : Ds} (r : Fd D) {pv : AV} {pts : List Int} (hpv : IL pv pts) (hpl : pts.length ≤ 65536) (n : Nat) (hn : n ≤ 65536) : Pure prog n_regenerate_rows [.fp (gfC D), pv, I n] (.agg [I n, gml (pts.map fun x => pwL D x n)]) := by
  refine pure_of cf_regenerate_rows rfl fun h => ?_
  simp
  intro b6 hb6 b7 hb7
  have sra := fun R => sr_all (R := R) (cs' := [I n, .nils]) (hset_same (hset h b6 [I 0, .nils]) b7 [I 0, .nils]) (n := 2) rfl rfl rfl
  have h6 : (hset (hset h b6 [I 0, .nils]) b7 [I n, .nils]) b6 = some [I 0, .nils] := by
    have : b6 ≠ b7 := fun he => by rw [← he, hset_same] at hb7; cases hb7
    rw [hset_ne _ _ this, hset_same]
  have hk0 : Kp h (hset (hset h b6 [I 0, .nils]) b7 [I n, .nils]) := ((Kp.refl h).new hb6 _).new hb7 _
  have hb7' : h b7 = none := ((Kp.refl h).new hb6 [I 0, .nils]).no hb7
  have gs := GrS.start hk0 hb7' (hset_same (hset h b6 [I 0, .nils]) b7 [I n, .nils])
  have h67 : b6 ≠ b7 := fun he => by rw [← he, hset_same] at hb7; cases hb7
  simp [sra, hpv.len]
  generalize hset (hset h b6 [I 0, .nils]) b7 [I n, .nils] = g at *
  refine awp_for pts.length (fun k fr' h' => (∃ v, GrS h g h' b7 (I n) v k (((pts.take k).map fun x => pwL D x n).map frow)) ∧ fr' 14 = I k) ⟨⟨.nils, by simpa using gs⟩, by simp⟩ ?_
  intro k fr' h' hkn hk ⟨⟨v, gk⟩, k14⟩
  have k0 := hk 0 (by decide)
  have k2 := hk 2 (by decide)
  have k6 := hk 6 (by decide)
  have k7 := hk 7 (by decide)
  have k12 := hk 12 (by decide)
  have k13 := hk 13 (by decide)
  simp at k0 k2 k6 k7 k12 k13
  clear hk
  by_cases hlt : k < pts.length
  · have u1 : IntKind.i64.wrap ((k : Int) + 1) = k + 1 := w64 _ (by omega)
    have hia := hpv.iadr (i := k) ⟨by omega, by omega⟩
    simp at hia
    have hld := fun h' => ld_ints (h := h') hlt
    have l7 := lq_snd gk.ld
    rw [take_getD (d := 0) hlt, List.map_append, List.map_append]
    generalize pts.getD k 0 = y at *
    have e : [pwL D y n].map frow = [AV.fs n (ints (pwL D y n))] := by rw [List.map_singleton, frow, pwL_len]
    rw [List.map_singleton, e]
    generalize ((pts.take k).map fun x => pwL D x n).map frow = cs at *
    simp [k0, k2, k7, k12, k13, k14, hlt, hia, hld, l7]
    refine (s_powersR r y n (by omega)).call ?_
    simp
    intro b hb
    refine gk.app hb (by omega) fun v' h3 hg hc1 ho g3 => ?_
    have st := fun R => sr_one (R := R) (v := v') (k := 1) hg hc1 ho (by simp)
    simp [st, k7, k14, u1, hlt]
    exact ⟨v', g3⟩
  · have : k = pts.length := by omega
    subst this
    rw [List.take_length] at gk
    have l7 := lq_both gk.ld
    have h6' : h' b6 = some [I 0, .nils] := gk.1.rd (by rw [hset_ne _ _ h67]; exact h6)
    have hone := gk.1.one
    have st := fun R => sr_all (R := R) (cs' := [I n, v]) h6' (n := 2) rfl rfl (by show (one (I n) && (one v && true)) = true; rw [hone]; rfl)
    have l6 := lq_both (hset_same h' b6 [I n, v])
    simp [k6, k7, k13, k14, l7, st, l6]
    have fin := (gk.1.frz (gk.2.1.set gk.2.2 _))
    have hkk := gk.kp.set hb6 [I n, v]
    have own6 : Own 1 (hset (hset g b7 [I n, v]) b6 [I n, v]) (hset h' b6 [I n, v]) v pts.length ((pts.map fun x => pwL D x n).map frow) := by
      exact gk.1.put (by rw [hset_ne _ _ h67]; exact h6) _
    have fz := own6.frz (G := h) ((gk.2.1.set gk.2.2 _).set hb6 _)
    refine RetP.agg fz.1 rfl (frz2 (.id _) ?_)
    have := fz.2
    rw [gml, List.length_map]; exact this
end Go.AM.Ytmihmgnjnedfcaa
end

section
/- Contracts of functions: the message matrix, on both sides. -/
set_option maxRecDepth 100000
set_option linter.unusedSimpArgs false
set_option linter.unusedVariables false
namespace Go.AM.Ytmihmgnjnedfcaa
open Go Go.AM
attribute [local simp ↓] awp_seq awp_reg awp_skip awp_cond' awp_block awp_exit awp_ret awp_fz thenW_normal thenW_exit thenW_ret inBlk_normal inBlk_exit inBlk_ret aops_cons' contA_ap aops_nil e_mv e_guard' e_pick' e_ld' e_app e_cpy e_st' e_call callW_f updO_some updO_none e_bin' e_isnil' e_fadr' e_iadr' e_iarr' e_len' e_build' e_mkf' e_nc' e_not' e_neg' e_cvt' e_slc' e_fld' e_ext' e_min' e_eqs' e_new e_box e_mkl e_mks
attribute [local simp] upd_apply ev_t ev_k ev_f binA_add binA_sub binA_mul binA_quo binA_rem binA_eql binA_neq binA_lss binA_leq binA_gtr binA_geq det mem frame0 keeps_nil iadrA_sl fadrA_ref fadrA_fp ldv_agg ldv_one cells_base hset_same hset_hset lenA_fs lenA_sl lenA_nils zeros_ints ints_length one_base one_nilp one_nils one_ref one_sl one_fp one_fs one_fn gl_one resA resOf bound natOf afill splice AV.cells cells_agg bindR_some condR_true condR_false guardR_tup guardR_true guardR_true' guardR_false guardR_false' allocW_some pickA_true pickA_false
open Go.FM

theorem bas_two {n : Nat} : ∀ k, k ≤ n → 2 * bas n k + k * k = 2 * (k * n) + k
  | 0, _ => by simp [bas]
  | k + 1, h => by
    have ih := bas_two (n := n) k (by omega)
    have e1 : (k + 1) * (k + 1) = k * k + 2 * k + 1 := by simp [Nat.add_mul, Nat.mul_add]; omega
    have e2 : (k + 1) * n = k * n + n := by simp [Nat.add_mul]
    simp only [bas]
    rw [e1, e2]
    omega
theorem bas_all (n : Nat) : 2 * bas n n = n * n + n := by
  have := bas_two (n := n) n (Nat.le_refl _); omega
theorem ixS_lt {n i j : Nat} (hi : i < n) (hj : j < n) (hij : i ≤ j) : ixS n i j < bas n n := by
  have : bas n i + (n - i) ≤ bas n n := bas_mono (n := n) (a := i + 1) (b := n) (by omega)
  unfold ixS; omega

theorem symL_congr {n : Nat} {l l' : List Int} (h : ∀ i, i < bas n n → l.getD i 0 = l'.getD i 0) : symL n l = symL n l' := by
  unfold symL
  refine matF_congr fun i j hi hj => ?_
  exact h _ (ixS_lt (by omega) (by omega) (by omega))

/-- The message matrix. -/
def msgB (k d : Nat) (l : List Int) : Nat → Nat → Int := fun a b =>
  if a < k ∧ b < k then l.getD (ixS k (min a b) (max a b)) 0 else if a < k then l.getD (bas k k + (a * (d - k) + (b - k))) 0 else if b < k then l.getD (bas k k + (b * (d - k) + (a - k))) 0 else 0
def msgL (st : Bool) (k d : Nat) (l : List Int) : List (List Int) :=
  if st then symL (k - 1) l ++ symL (k - 1) (l.drop (bas (k - 1) (k - 1))) else matF d d (msgB k d l)
/-- Filled up to the entry (i, j). -/
def msgS (k d : Nat) (l : List Int) (i j : Nat) : Nat → Nat → Int := fun a b =>
  if min a b < i ∨ (min a b = i ∧ max a b < j) ∨ (a < k ∧ b < k) then msgB k d l a b else 0
theorem msgS_step {k d : Nat} {l : List Int} {i j : Nat} (hi : i < k) (hj : k ≤ j) (a b : Nat) :
    upd2 (upd2 (msgS k d l i j) i j (l.getD (bas k k + (i * (d - k) + (j - k))) 0)) j i (l.getD (bas k k + (i * (d - k) + (j - k))) 0) a b = msgS k d l i (j + 1) a b := by
  unfold upd2 msgS
  by_cases h1 : a = j ∧ b = i
  · obtain ⟨rfl, rfl⟩ := h1
    rw [if_pos ⟨rfl, rfl⟩, if_pos (by omega), msgB, if_neg (by omega), if_neg (by omega), if_pos hi]
  · rw [if_neg h1]
    by_cases h2 : a = i ∧ b = j
    · obtain ⟨rfl, rfl⟩ := h2
      rw [if_pos ⟨rfl, rfl⟩, if_pos (by omega), msgB, if_neg (by omega), if_pos hi]
    · rw [if_neg h2]
      by_cases h3 : min a b < i ∨ (min a b = i ∧ max a b < j) ∨ (a < k ∧ b < k)
      · rw [if_pos h3, if_pos (by omega)]
      · rw [if_neg h3, if_neg (by omega)]
theorem msgS_row {k d : Nat} {l : List Int} {i : Nat} (hi : i < k) {a b : Nat} (ha : a < d) (hb : b < d) : msgS k d l i d a b = msgS k d l (i + 1) k a b := by
  unfold msgS
  by_cases h3 : min a b < i ∨ (min a b = i ∧ max a b < d) ∨ (a < k ∧ b < k)
  · rw [if_pos h3, if_pos (by omega)]
  · rw [if_neg h3, if_neg (by omega)]

theorem LM.only {h h' : Hp} {o : Nat} {bs : Nat → Nat} {L : List (List Int)} (m : LM h o bs L) {cs : Nat → Nat} {n : Nat} (a : Only cs n h h') (h1 : ∀ j, j < n → cs j ≠ o) (h2 : ∀ i j, i < L.length → j < n → bs i ≠ cs j) : LM h' o bs L :=
  ⟨m.inj, m.ne, by rw [a o fun i hi he => h1 i hi he.symm]; exact m.out, fun i hi => by rw [a (bs i) fun j hj => h2 i j hi hj]; exact m.row i hi⟩

/-- One list of rows behind another. -/
theorem LM.app2 {G h : Hp} {o1 o2 : Nat} {bs1 bs2 : Nat → Nat} {L1 L2 : List (List Int)} (kp : Kp G h) (m1 : LM h o1 bs1 L1) (m2 : LM h o2 bs2 L2) (g1 : G o1 = none) (r1 : ∀ i, i < L1.length → G (bs1 i) = none) (r2 : ∀ i, i < L2.length → G (bs2 i) = none)
    (hd : ∀ i j, i < L1.length → j < L2.length → bs1 i ≠ bs2 j) (ho : ∀ j, j < L2.length → bs2 j ≠ o1) (hn : L1.length + L2.length ≤ 4294967296) {R : AV → Hp → Prop}
    (k : ∀ v h', RetP G (.fs (L1.length + L2.length) ((L1 ++ L2).map frow)) v h' → R v h') : appW (.sl o1 0 L1.length 1) (.sl o2 0 L2.length 1) 1 h R := by
  have hr : readS h (.sl o2 0 L2.length 1) 1 = some (L2.length, rowsC bs2 L2) := by
    have : h o2 = some (rowsC bs2 L2) := m2.out
    simp only [readS, this, rowsC_len, Nat.zero_add, Nat.mul_one, Nat.le_refl, and_self, if_true, List.drop_zero]
    rw [List.take_of_length_le (by rw [rowsC_len]; exact Nat.le_refl _)]
  have h1 : h o1 = some (rowsC bs1 L1) := m1.out
  unfold appW
  rw [hr]
  simp only [h1]
  refine ⟨trivial, trivial, by rw [rowsC_len]; omega, hn, fun b hb => ?_⟩
  have hb2 : ∀ i, i < L1.length → bs1 i ≠ b := by
    rintro i hi he
    rcases hb with rfl | hb
    · exact m1.ne i hi he
    · rw [← he, m1.row i hi] at hb; cases hb
  have hb3 : ∀ i, i < L2.length → bs2 i ≠ b := by
    rintro i hi he
    rcases hb with rfl | hb
    · exact ho i hi he
    · rw [← he, m2.row i hi] at hb; cases hb
  have hgb : G b = none := by
    rcases hb with rfl | hb
    · exact g1
    · exact kp.no hb
  have e : rowsC bs1 L1 ++ rowsC bs2 L2 = rowsC (fun i => if i < L1.length then bs1 i else bs2 (i - L1.length)) (L1 ++ L2) := by
    apply List.ext_getElem
    · simp [rowsC_len]
    · intro i h1 h2
      simp only [rowsC_len, List.length_append] at h2
      by_cases hi : i < L1.length
      · rw [List.getElem_append_left (by rw [rowsC_len]; exact hi)]
        simp [rowsC, hi, List.getElem?_append]
      · rw [List.getElem_append_right (by rw [rowsC_len]; omega)]
        simp [rowsC, hi, List.getElem?_append, rowsC_len]
  rw [e]
  refine k _ _ ?_
  have m3 : LM (hset h b (rowsC (fun i => if i < L1.length then bs1 i else bs2 (i - L1.length)) (L1 ++ L2))) b (fun i => if i < L1.length then bs1 i else bs2 (i - L1.length)) (L1 ++ L2) := by
    refine ⟨fun i j hi hj hij => ?_, fun i hi => ?_, hset_same .., fun i hi => ?_⟩
    · rw [List.length_append] at hi hj
      by_cases c1 : i < L1.length <;> by_cases c2 : j < L1.length
      · simp only [if_pos c1, if_pos c2]; exact m1.inj i j c1 c2 hij
      · simp only [if_pos c1, if_neg c2]; exact hd i _ c1 (by omega)
      · simp only [if_neg c1, if_pos c2]; exact fun he => hd j _ c2 (by omega) he.symm
      · simp only [if_neg c1, if_neg c2]; exact m2.inj _ _ (by omega) (by omega) (by omega)
    · rw [List.length_append] at hi
      by_cases c1 : i < L1.length
      · simp only [if_pos c1]; exact hb2 i c1
      · simp only [if_neg c1]; exact hb3 _ (by omega)
    · rw [List.length_append] at hi
      by_cases c1 : i < L1.length
      · simp only [if_pos c1]
        rw [hset_ne _ _ (hb2 i c1), m1.row i c1]
        simp [List.getD, List.getElem?_append, c1]
      · simp only [if_neg c1]
        rw [hset_ne _ _ (hb3 _ (by omega)), m2.row _ (by omega)]
        simp [List.getD, List.getElem?_append, c1]
  have fz := m3.frz (G := G) (kp.set hgb _) hgb fun i hi => by
    rw [List.length_append] at hi
    by_cases c1 : i < L1.length
    · simp only [if_pos c1]; exact r1 i c1
    · simp only [if_neg c1]; exact r2 _ (by omega)
  rw [List.length_append] at fz
  exact ⟨_, fz.1, fz.2, rfl⟩

theorem symL_len (n : Nat) (l : List Int) : (symL n l).length = n := matF_len ..
theorem msgL_st {k d : Nat} {l : List Int} : msgL true k d l = symL (k - 1) l ++ symL (k - 1) (l.drop (bas (k - 1) (k - 1))) := by simp [msgL]
theorem msgL_bw {k d : Nat} {l : List Int} : msgL false k d l = matF d d (msgB k d l) := by simp [msgL]

/-- What the numbers of a code are. -/
theorem Rc.Okn.nums {R : Rc} (o : R.Okn) : ∃ k d : Nat, R.k = k ∧ R.d = d ∧ 1 ≤ k ∧ k ≤ d ∧ d ≤ 63 ∧ (R.kd = 1 → d = 2 * k - 2 ∧ 2 ≤ k ∧ R.szF = ((2 * bas (k - 1) (k - 1) : Nat) : Int) ∧ R.szN = ((k - 1 : Nat) : Int)) ∧
    (R.kd = 0 → R.szF = ((bas k k + k * (d - k) : Nat) : Int) ∧ R.szN = (d : Int)) := by
  have h1 := o.k1
  have h2 := o.kd2
  have h3 := o.d
  refine ⟨R.k.toNat, R.d.toNat, by omega, by omega, by omega, by omega, by omega, fun hk => ?_, fun hk => ?_⟩
  · have h4 := o.st hk
    refine ⟨by omega, by omega, ?_, ?_⟩
    · unfold Rc.szF
      rw [if_pos hk, bas_all]
      obtain ⟨a, ha⟩ : ∃ a : Nat, R.k = a + 1 := ⟨(R.k - 1).toNat, by omega⟩
      have : R.k.toNat - 1 = a := by omega
      rw [this, ha]
      push_cast
      rw [Int.add_mul]
      have : (a : Int) + 1 - 1 = a := by omega
      rw [this]; omega
    · unfold Rc.szN
      rw [if_pos hk]; omega
  · have hk1 : ¬ R.kd = 1 := by omega
    refine ⟨?_, ?_⟩
    · unfold Rc.szF
      rw [if_neg hk1]
      obtain ⟨a, ha⟩ : ∃ a : Nat, R.k = a := ⟨R.k.toNat, by omega⟩
      obtain ⟨b, hb⟩ : ∃ b : Nat, R.d = (a : Int) + b := ⟨(R.d - R.k).toNat, by omega⟩
      have e1 : R.k.toNat = a := by omega
      have e2 : R.d.toNat - a = b := by omega
      rw [e1, e2, ha, hb]
      have hba := bas_all a
      push_cast
      rw [Int.mul_add, Int.mul_sub, Int.mul_one]
      have c1 : ((a * a : Nat) : Int) = (a : Int) * a := by push_cast; rfl
      have c2 : ((a * b : Nat) : Int) = (a : Int) * b := by push_cast; rfl
      rw [← c1, ← c2]
      have : a ≤ a * a := Nat.le_mul_of_pos_left a (by omega)
      omega
    · unfold Rc.szN
      rw [if_neg hk1]; omega

set_option maxHeartbeats 4000000 in
theorem s_message {R : Rc} (ok : R.Okn) {mv pv fv : AV} (hone : one mv = true) (hone2 : one pv = true) {l : List Int} (hv : IL fv l) (hl : (l.length : Int) = R.szF) {k d : Nat} (hk : R.k = k) (hd : R.d = d) :
    Pure prog n_regenerate_message [.agg (R.cells mv pv), fv] (.fs (msgL (decide (R.kd = 1)) k d l).length ((msgL (decide (R.kd = 1)) k d l).map frow)) := by
  obtain ⟨k', d', e1, e2, e3, e4, e5, e6, e7⟩ := ok.nums
  obtain rfl : k' = k := by omega
  obtain rfl : d' = d := by omega
  have hl2 : l.length ≤ 64 * 64 := by
    have := ok.bd
    unfold Rc.szF at hl
    split at hl
    · omega
    · have := ok.k1; have : 0 ≤ R.k * (R.k - 1) / 2 := by omega
      omega
  refine pure_of cf_regenerate_message rfl fun h => ?_
  unfold c_regenerate_message_0 c_regenerate_message_1
  generalize hC : c_regenerate_message_2 = C2
  simp [hone, hone2]
  intro b2 hb2
  obtain ⟨l0, l3, l4, l5, l6, l7⟩ := ld7_at (hset_same h b2 (R.cells mv pv))
  have hkg : Kp h (hset h b2 (R.cells mv pv)) := (Kp.refl h).new hb2 _
  have hg2 : (hset h b2 (R.cells mv pv)) b2 = some (R.cells mv pv) := hset_same ..
  generalize hset h b2 (R.cells mv pv) = g at *
  by_cases kd : R.kd = 1
  · obtain ⟨f1, f2, f3, f4⟩ := e6 kd
    rw [decide_eq_true kd, msgL_st]
    have hsz := s_sizes ok hone hone2
    rw [f4] at hsz
    generalize ha : k' - 1 = a at *
    simp [l3, kd, l7]
    rw [← kd]
    refine hsz.call ?_
    simp
    refine call0 (w_square (r := a) (c := a) (by omega) (by omega) (by omega) g) fun v1 h1 ⟨q1, o1, bs1, q2, q3, q4, q5⟩ => ?_
    subst q2
    simp
    refine call0 (w_square (r := a) (c := a) (by omega) (by omega) (by omega) h1) fun v2 h2 ⟨t1, o2, bs2, t2, t3, t4, t5⟩ => ?_
    subst t2
    rw [matF_len] at q5 t5
    have q3' := q3.mono t1
    simp [matF_len]
    refine call0 (w_symmetric q3' (n := a) (by omega) (by omega) (by omega) hv (by omega) (by omega)) fun w h3 ⟨r1, r2, r3⟩ => ?_
    have hl3 : bas a a ≤ (l.drop (bas a a)).length := by rw [List.length_drop]; omega
    have d1 : ∀ i j, i < a → j < a → bs1 i ≠ bs2 j := fun i j hi hj he => by
      have := q3.row i (by rw [matF_len]; exact hi)
      rw [he, t5 j hj] at this; cases this
    have d2 : ∀ j, j < a → bs2 j ≠ o1 := fun j hj he => by
      have := q3.out
      rw [← he, t5 j hj] at this; cases this
    have d3 : ∀ j, j < a → bs1 j ≠ o2 := fun j hj he => by
      have := q3.row j (by rw [matF_len]; exact hj)
      rw [he, t4] at this; cases this
    have d4 : o1 ≠ o2 := fun he => by
      have := q3.out
      rw [he, t4] at this; cases this
    have t3' := t3.only r2 (fun j hj => d3 j hj) (fun i j hi hj => by rw [matF_len] at hi; exact (d1 j i hj hi).symm)
    simp
    refine call0 (w_symmetric t3' (n := a) (by omega) (by omega) (by omega) r1 hl3 (by rw [List.length_drop]; omega)) fun w2 h4 ⟨u1, u2, u3⟩ => ?_
    have r3' := r3.only u2 (fun j hj => d2 j hj) (fun i j hi hj => by rw [matF_len] at hi; exact d1 i j hi hj)
    have es : ∀ l', matF a a (eS a l' (fun _ _ => 0) a a) = symL a l' := fun l' => matF_congr fun i j hi hj => by rw [eS_row0, if_pos (by omega)]
    rw [es] at r3' u3
    have kp3 : Kp g h3 := r2.kp (q1.trans t1) q5
    have kp4 : Kp g h4 := u2.kp kp3 fun i hi => q1.no (t5 i hi)
    simp
    have ap := fun R => LM.app2 (R := R) (hkg.trans kp4) r3' u3 (hkg.no q4) (by rw [symL_len]; exact fun i hi => hkg.no (q5 i hi)) (by rw [symL_len]; exact fun i hi => hkg.no (q1.no (t5 i hi))) (by rw [symL_len, symL_len]; exact d1) (by rw [symL_len]; exact d2) (by rw [symL_len, symL_len]; omega)
    rw [symL_len, symL_len] at ap
    refine ap _ fun v h5 hr => ?_
    simp [symL_len]
    rw [List.map_append] at hr
    exact hr
  · have hkd : R.kd = 0 := by rcases ok.kd with hh | hh <;> omega
    obtain ⟨f3, f4⟩ := e7 hkd
    rw [decide_eq_false kd, msgL_bw, matF_len]
    rw [e2] at l5
    rw [e1] at l4
    generalize hcs : R.cells mv pv = cs at *
    simp [l3, kd]
    subst hC
    unfold c_regenerate_message_2 c_regenerate_message_3
    generalize hC : c_regenerate_message_4 = C2
    simp [l5]
    refine call0 (w_square (r := d') (c := d') (by omega) (by omega) (by omega) g) fun v1 h1 ⟨q1, o1, bs1, q2, q3, q4, q5⟩ => ?_
    subst q2
    have l4' := ld_one_at (q1 _ _ hg2) (k := 4) (by rw [← hcs]; simp)
    rw [matF_len] at q5
    subst hcs
    simp [e1] at l4'
    simp [matF_len, l4']
    refine call0 (w_symmetric q3 (n := k') (by omega) (by omega) (by omega) hv (by omega) (by omega)) fun w h3 ⟨r1, r2, r3⟩ => ?_
    have kp3 := (hkg.trans q1)
    have g2' := r2.kp q1 q5 _ _ hg2
    have ne2 : ∀ i, i < d' → bs1 i ≠ b2 := fun i hi he => by have := q5 i hi; rw [he, hg2] at this; cases this
    subst hC
    unfold c_regenerate_message_4
    generalize hC : c_regenerate_message_5 = C2
    obtain ⟨l0', l3', l4', l5', l6', l7'⟩ := ld7_at g2'
    rw [e1] at l4'
    rw [e2] at l5'
    have r3' : LM h3 o1 bs1 (matF d' d' (msgS k' d' l 0 k')) := by
      rw [matF_congr (e' := eS k' l (fun _ _ => 0) k' k') fun i j hi hj => ?_]
      · exact r3
      · rw [eS_row0]
        unfold msgS msgB
        by_cases c : i < k' ∧ j < k'
        · rw [if_pos (by omega), if_pos c, if_pos (by omega)]
        · rw [if_neg (by omega), if_neg (by omega)]
    clear r3
    simp [l4']
    refine awp_for k' (fun i fr' h' => ∃ w, IL w (l.drop (bas k' k' + i * (d' - k'))) ∧ Only bs1 d' h3 h' ∧ LM h' o1 bs1 (matF d' d' (msgS k' d' l i k')) ∧ fr' 10 = w ∧ fr' 49 = I i)
      ⟨w, by simpa using r1, Only.refl _ _ _, r3', by simp, by simp⟩ ?_
    intro i fr' h' hkn hk ⟨w1, hw, ho, hm, k10, k49⟩
    have k2 := hk 2 (by decide)
    have k9 := hk 9 (by decide)
    have k48 := hk 48 (by decide)
    simp at k2 k9 k48
    clear hk
    have g2h := (ho b2 fun i hi => (ne2 i hi).symm).trans g2'
    obtain ⟨_, _, m4, m5, _, _⟩ := ld7_at g2h
    rw [e1] at m4
    rw [e2] at m5
    by_cases hlt : i < k'
    · have u1 : IntKind.i64.wrap ((i : Int) + 1) = i + 1 := w64 _ (by omega)
      unfold c_regenerate_messageL0_0 c_regenerate_messageL0_1 c_regenerate_messageL0_2
      generalize hC3 : c_regenerate_messageL0_3 = C3
      simp [k2, k9, k48, k49, hlt, m4]
      refine awp_for (d' - k') (fun t fr2 h2 => ∃ w, IL w (l.drop (bas k' k' + (i * (d' - k') + t))) ∧ Only bs1 d' h3 h2 ∧ LM h2 o1 bs1 (matF d' d' (msgS k' d' l i (k' + t))) ∧ fr2 10 = w ∧ fr2 12 = I ((k' + t : Nat) : Int))
        ⟨w1, hw, ho, hm, by simp [k10], by simp⟩ ?_
      intro t fr2 h2 htn hk2 ⟨w2, hw2, ho2, hm2, m10, m12⟩
      have n2 := hk2 2 (by decide)
      have n9 := hk2 9 (by decide)
      have n11 := hk2 11 (by decide)
      have n48 := hk2 48 (by decide)
      have n49 := hk2 49 (by decide)
      simp [k2, k9, k48, k49] at n2 n9 n11 n48 n49
      clear hk2
      have g2h := (ho2 b2 fun i hi => (ne2 i hi).symm).trans g2'
      obtain ⟨_, _, _, m5', _, _⟩ := ld7_at g2h
      rw [e2] at m5'
      have hle : i * (d' - k') + (d' - k') ≤ k' * (d' - k') := by
        have : (i + 1) * (d' - k') ≤ k' * (d' - k') := Nat.mul_le_mul_right _ (by omega)
        rwa [Nat.add_mul, Nat.one_mul] at this
      by_cases htl : t < d' - k'
      · have hj : k' + t < d' := by omega
        have hjc2 : (k' : Int) + (t : Int) < (d' : Int) := by omega
        have hrl1 := hm2.ld (i := i) (by rw [matF_len]; omega)
        have hrl2 := hm2.ld (i := k' + t) (by rw [matF_len]; omega)
        rw [matF_rlen (by omega)] at hrl1 hrl2
        have hwl : (l.drop (bas k' k' + (i * (d' - k') + t))).length = l.length - (bas k' k' + (i * (d' - k') + t)) := by simp
        have hia := hw2.iadr (i := 0) ⟨by omega, by omega⟩
        have hld := fun h' => ld_ints (h := h') (l := l.drop (bas k' k' + (i * (d' - k') + t))) (k := 0) (by omega)
        have hval : (l.drop (bas k' k' + (i * (d' - k') + t))).getD 0 0 = l.getD (bas k' k' + (i * (d' - k') + (k' + t - k'))) 0 := by
          have : k' + t - k' = t := by omega
          rw [this]
          simp [List.getD]
        rw [hval] at hld
        simp only [Int.toNat_zero] at hia
        obtain ⟨l1, hm3, hst1⟩ := hm2.setF (i := i) (j := k' + t) (by omega) (by omega) (l.getD (bas k' k' + (i * (d' - k') + (k' + t - k'))) 0)
        obtain ⟨l2, hm4, hst2⟩ := hm3.setF (i := k' + t) (j := i) (by omega) (by omega) (l.getD (bas k' k' + (i * (d' - k') + (k' + t - k'))) 0)
        rw [matF_congr fun a b _ _ => msgS_step hlt (by omega) a b] at hm4
        have ho4 := (ho2.put (i := i) (by omega) (ints l1)).put (i := k' + t) (by omega) (ints l2)
        have hsl := hw2.slcN (lo := 1) (hi := (l.drop (bas k' k' + (i * (d' - k') + t))).length) (by omega) (Nat.le_refl _)
        have hsv := hw2.slv (lo := 1) (hi := (l.drop (bas k' k' + (i * (d' - k') + t))).length) (by omega) (Nat.le_refl _)
        rw [List.take_of_length_le (by simp; omega), List.drop_drop] at hsv
        have hln := hw2.len
        have u2 : IntKind.i64.wrap ((k' : Int) + (t : Int) + 1) = ((k' + (t + 1) : Nat) : Int) := by rw [w64 _ (by omega)]; omega
        have hkr : i < d' := by omega
        have hnn : (0 : Int) ≤ (k' : Int) + (t : Int) := by omega
        have hnt : ((k' : Int) + (t : Int)).toNat = k' + t := by omega
        have hlen1 : (1 : Int) ≤ ((l.drop (bas k' k' + (i * (d' - k') + t))).length : Int) := by omega
        generalize l.getD (bas k' k' + (i * (d' - k') + (k' + t - k'))) 0 = y at *
        generalize l.drop (bas k' k' + (i * (d' - k') + t)) = lw at *
        have hwlen : lw.length = l.length - (bas k' k' + (i * (d' - k') + t)) := hwl
        clear hwl hval
        simp only [List.drop_zero] at hia hld
        simp [n2, n9, n11, m10, m12, m5', hjc2, hkr, hnn, hnt, hrl1, hrl2, hia, hld, hst1, hst2, htl, hln, hlen1, hsl, u2]
        exact ⟨_, by simpa [Nat.add_assoc] using hsv, ho4, hm4, rfl⟩
      · have : t = d' - k' := by omega
        subst this
        have e1' : k' + (d' - k') = d' := by omega
        rw [e1'] at hm2 m12
        simp [n2, m12, m5']
        subst hC3
        simp [n49, u1, hlt]
        refine ⟨w2, by simpa [Nat.add_mul] using hw2, ho2, ?_, by simpa using m10⟩
        rw [matF_congr fun a b ha hb => msgS_row hlt ha hb] at hm2
        exact hm2
    · have : i = k' := by omega
      subst this
      subst hC
      simp [k48, k49, k9]
      rw [matF_congr (e' := msgB i d' l) fun a b ha hb => ?_] at hm
      · have kpn : Kp h h' := ho.kp (hkg.trans (r2.kp q1 q5)) fun j hj => hkg.no (q5 j hj)
        have fz := hm.frz kpn (hkg.no q4) (by rw [matF_len]; exact fun j hj => hkg.no (q5 j hj))
        rw [matF_len] at fz
        exact ⟨_, fz.1, fz.2, rfl⟩
      · unfold msgS
        by_cases c : min a b < i
        · rw [if_pos (.inl c)]
        · rw [if_neg (by omega), msgB, if_neg (by omega), if_neg (by omega), if_neg (by omega)]
end Go.AM.Ytmihmgnjnedfcaa
end

section
/- Contracts of functions: the reference's message matrix. -/
set_option maxRecDepth 100000
set_option linter.unusedSimpArgs false
set_option linter.unusedVariables false
namespace Go.AM.Ytmihmgnjnedfcaa
open Go Go.AM
attribute [local simp ↓] awp_seq awp_reg awp_skip awp_cond' awp_block awp_exit awp_ret awp_fz thenW_normal thenW_exit thenW_ret inBlk_normal inBlk_exit inBlk_ret aops_cons' contA_ap aops_nil e_mv e_guard' e_pick' e_ld' e_app e_cpy e_st' e_call callW_f updO_some updO_none e_bin' e_isnil' e_fadr' e_iadr' e_iarr' e_len' e_build' e_mkf' e_nc' e_not' e_neg' e_cvt' e_slc' e_fld' e_ext' e_min' e_eqs' e_new e_box e_mkl e_mks
attribute [local simp] upd_apply ev_t ev_k ev_f binA_add binA_sub binA_mul binA_quo binA_rem binA_eql binA_neq binA_lss binA_leq binA_gtr binA_geq det mem frame0 keeps_nil iadrA_sl fadrA_ref fadrA_fp ldv_agg ldv_one cells_base hset_same hset_hset lenA_fs lenA_sl lenA_nils zeros_ints ints_length one_base one_nilp one_nils one_ref one_sl one_fp one_fs one_fn gl_one resA resOf bound natOf afill splice AV.cells cells_agg bindR_some condR_true condR_false guardR_tup guardR_true guardR_true' guardR_false guardR_false' allocW_some pickA_true pickA_false
open Go.FM

/-- A row, as far as it is made. -/
def rowP (d : Nat) (e : Nat → Int) (j : Nat) : List Int := (List.range d).map fun c => if c < j then e c else 0
theorem rowP_set {d : Nat} {e : Nat → Int} {j : Nat} : (rowP d e j).set j (e j) = rowP d e (j + 1) := by
  unfold rowP
  rw [rmap_set]
  refine List.map_congr_left fun c _ => ?_
  by_cases h : c = j
  · subst h; simp
  · by_cases h2 : c < j
    · rw [if_neg h, if_pos h2, if_pos (by omega)]
    · rw [if_neg h, if_neg h2, if_neg (by omega)]
theorem rowP_zero {d : Nat} {e : Nat → Int} : rowP d e 0 = List.replicate d 0 := by
  refine List.eq_replicate_iff.2 ⟨by simp [rowP], fun x hx => ?_⟩
  obtain ⟨i, _, rfl⟩ := List.mem_map.1 hx
  simp
theorem rowP_len {d : Nat} {e : Nat → Int} {j : Nat} : (rowP d e j).length = d := by simp [rowP]
theorem rowP_skip {d : Nat} {e : Nat → Int} {j : Nat} (h : e j = 0) : rowP d e (j + 1) = rowP d e j := by
  unfold rowP
  refine List.map_congr_left fun c _ => ?_
  by_cases h2 : c < j
  · rw [if_pos h2, if_pos (by omega)]
  · by_cases h3 : c = j
    · subst h3; rw [if_neg h2, if_pos (by omega), h]
    · rw [if_neg h2, if_neg (by omega)]
theorem rowP_all {d : Nat} {e : Nat → Int} : rowP d e d = (List.range d).map e := by
  unfold rowP
  refine List.map_congr_left fun c hc => ?_
  rw [if_pos (List.mem_range.1 hc)]
theorem matF_snoc (k d : Nat) (e : Nat → Nat → Int) : matF (k + 1) d e = matF k d e ++ [(List.range d).map (e k)] := by
  simp [matF, List.range_succ]

theorem GrP.ldx {h h' : Hp} {v : AV} {L : List (List Int)} {b : Nat} {l : List Int} (g : GrP h h' v L b l) : h' b = some (ints l) := g.ld

set_option maxHeartbeats 8000000 in
theorem s_refMessage {R : Rc} (ok : R.Okn) {mv pv fv : AV} (hone : one mv = true) (hone2 : one pv = true) {l : List Int} (hv : IL fv l) (hl : (l.length : Int) = R.szF) {k d : Nat} (hk : R.k = k) (hd : R.d = d) :
    Pure prog n_ref52_Message [.agg (R.cells mv pv), fv] (.fs (msgL (decide (R.kd = 1)) k d l).length ((msgL (decide (R.kd = 1)) k d l).map frow)) := by
  obtain ⟨k', d', e1, e2, e3, e4, e5, e6, e7⟩ := ok.nums
  obtain rfl : k' = k := by omega
  obtain rfl : d' = d := by omega
  have hl2 : l.length ≤ 64 * 64 := by
    have := ok.bd
    unfold Rc.szF at hl
    split at hl
    · omega
    · have := ok.k1; have : 0 ≤ R.k * (R.k - 1) / 2 := by omega
      omega
  refine pure_of cf_ref52_Message rfl fun h => ?_
  unfold c_ref52_Message_0 c_ref52_Message_1
  generalize hC : c_ref52_Message_2 = C2
  simp [hone, hone2]
  intro b2 hb2
  obtain ⟨l0, l3, l4, l5, l6, l7⟩ := ld7_at (hset_same h b2 (R.cells mv pv))
  have hkg : Kp h (hset h b2 (R.cells mv pv)) := (Kp.refl h).new hb2 _
  have hg2 : (hset h b2 (R.cells mv pv)) b2 = some (R.cells mv pv) := hset_same ..
  generalize hset h b2 (R.cells mv pv) = g at *
  rw [e2] at l5
  rw [e1] at l4
  by_cases kd : R.kd = 1
  · obtain ⟨f1, f2, f3, f4⟩ := e6 kd
    rw [decide_eq_true kd, msgL_st]
    generalize ha : k' - 1 = a at *
    have hka : (k' : Int) - 1 = a := by omega
    have u1 : IntKind.i64.wrap ((k' : Int) - 1) = a := by rw [w64 _ (by omega)]; exact hka
    have hlen : (l.length : Int) = ((2 * bas a a : Nat) : Int) := by omega
    have u2 : (l.length : Int).tdiv 2 = ((bas a a : Nat) : Int) := by rw [Int.tdiv_eq_ediv_of_nonneg (by omega)]; omega
    have u3 : IntKind.i64.wrap ((bas a a : Nat) : Int) = ((bas a a : Nat) : Int) := w64 _ (by omega)
    have s1 := hv.slcN (lo := 0) (hi := bas a a) (by omega) (by omega)
    have s2 := hv.slcN (lo := bas a a) (hi := l.length) (by omega) (Nat.le_refl _)
    have i1 := hv.slv (lo := 0) (hi := bas a a) (by omega) (by omega)
    have i2 := hv.slv (lo := bas a a) (hi := l.length) (by omega) (Nat.le_refl _)
    rw [List.drop_zero, Nat.sub_zero] at i1
    rw [List.take_of_length_le (by simp)] at i2
    have hbl : ((bas a a : Nat) : Int) ≤ l.length := by omega
    have hbl' : bas a a ≤ l.length := by omega
    simp [l3, kd, hv.len, u2, u3, l4, u1, s1, s2, hbl, hbl']
    refine call2 (w_refSymmetric (n := a) (by omega) (by omega) i1 (by rw [List.length_take]; omega) (by rw [List.length_take]; omega) g) fun v1 h1 ⟨q1, o1, bs1, q2, q3, q4, q5⟩ => ⟨q1, ?_⟩
    subst q2
    simp
    refine call2 (w_refSymmetric (n := a) (by omega) (by omega) i2 (by rw [List.length_drop]; omega) (by rw [List.length_drop]; omega) h1) fun v2 h2 ⟨t1, o2, bs2, t2, t3, t4, t5⟩ => ⟨t1, ?_⟩
    subst t2
    rw [symL_len] at q5 t5
    have q3' := q3.mono t1
    have d1 : ∀ i j, i < a → j < a → bs1 i ≠ bs2 j := fun i j hi hj he => by
      have := q3.row i (by rw [symL_len]; exact hi)
      rw [he, t5 j hj] at this; cases this
    have d2 : ∀ j, j < a → bs2 j ≠ o1 := fun j hj he => by
      have := q3.out
      rw [← he, t5 j hj] at this; cases this
    have hs : symL a (l.take (bas a a)) = symL a l := symL_congr fun i hi => by simp [List.getD, hi]
    rw [hs] at q3'
    simp [symL_len]
    have ap := fun R => LM.app2 (R := R) (hkg.trans (q1.trans t1)) q3' t3 (hkg.no q4) (by rw [symL_len]; exact fun i hi => hkg.no (q5 i hi)) (by rw [symL_len]; exact fun i hi => hkg.no (q1.no (t5 i hi))) (by rw [symL_len, symL_len]; exact d1) (by rw [symL_len]; exact d2) (by rw [symL_len, symL_len]; omega)
    rw [symL_len, symL_len] at ap
    refine ap _ fun v h5 hr => ?_
    simp
    rw [List.map_append] at hr
    exact hr
  · have hkd : R.kd = 0 := by rcases ok.kd with hh | hh <;> omega
    obtain ⟨f3, f4⟩ := e7 hkd
    rw [decide_eq_false kd, msgL_bw, matF_len]
    have hkk : ((k' : Int) * (k' + 1)) = ((2 * bas k' k' : Nat) : Int) := by rw [bas_all]; push_cast; rw [Int.mul_add, Int.mul_one]
    have hbs : 2 * bas k' k' ≤ 64 * 64 + 64 := by
      rw [bas_all]
      have : k' * k' ≤ 64 * 64 := Nat.mul_le_mul (by omega) (by omega)
      omega
    have u1 : IntKind.i64.wrap ((k' : Int) + 1) = k' + 1 := w64 _ (by omega)
    have u2 : IntKind.i64.wrap (((2 * bas k' k' : Nat) : Int)) = ((2 * bas k' k' : Nat) : Int) := w64 _ (by omega)
    have u3 : (((2 * bas k' k' : Nat) : Int)).tdiv 2 = ((bas k' k' : Nat) : Int) := by rw [Int.tdiv_eq_ediv_of_nonneg (by omega)]; omega
    have u4 : IntKind.i64.wrap ((bas k' k' : Nat) : Int) = ((bas k' k' : Nat) : Int) := w64 _ (by omega)
    have s1 := hv.slcN (lo := 0) (hi := bas k' k') (by omega) (by omega)
    have s2 := hv.slcN (lo := bas k' k') (hi := l.length) (by omega) (Nat.le_refl _)
    have i1 := hv.slv (lo := 0) (hi := bas k' k') (by omega) (by omega)
    have i2 := hv.slv (lo := bas k' k') (hi := l.length) (by omega) (Nat.le_refl _)
    rw [List.drop_zero, Nat.sub_zero] at i1
    rw [List.take_of_length_le (by simp)] at i2
    have hbl : ((bas k' k' : Nat) : Int) ≤ l.length := by omega
    have hbl' : bas k' k' ≤ l.length := by omega
    generalize hcs : R.cells mv pv = cs at *
    simp [l3, kd]
    subst hC
    unfold c_ref52_Message_2
    generalize hC : c_ref52_Message_3 = C2
    simp [l4, u1, hkk]
    push_cast at u2 u3
    simp [u2, u3, u4, s1, hbl, hbl', hv.len]
    refine call2 (w_refSymmetric (n := k') (by omega) (by omega) i1 (by rw [List.length_take]; omega) (by rw [List.length_take]; omega) g) fun v1 h1 ⟨q1, o1, bs1, q2, q3, q4, q5⟩ => ⟨q1, ?_⟩
    subst q2
    have hs : symL k' (l.take (bas k' k')) = symL k' l := symL_congr fun i hi => by simp [List.getD, hi]
    rw [hs] at q3
    subst hcs
    have g2' := q1 _ _ hg2
    obtain ⟨l0', l3', l4', l5', l6', l7'⟩ := ld7_at g2'
    rw [e1] at l4'
    rw [e2] at l5'
    subst hC
    unfold c_ref52_Message_3 c_ref52_Message_4 c_ref52_Message_5
    generalize hC : c_ref52_Message_6 = C2
    simp [l4', u1, hkk]
    simp [u2, u3, u4, s2, hbl, hbl', symL_len, hv.len]
    generalize slv fv (bas k' k') l.length 1 = w7 at *
    refine awp_for d' (fun i fr' h' => GrM h1 h' (fr' 8) (matF i d' (msgB k' d' l)) ∧ fr' 9 = I i) ⟨by simpa [matF] using GrM.nils h1, by simp⟩ ?_
    intro i fr' h' hkn hk ⟨gr, k9⟩
    have k2 := hk 2 (by decide)
    have k6 := hk 6 (by decide)
    have k7 := hk 7 (by decide)
    simp at k2 k6 k7
    clear hk
    obtain ⟨_, _, _, m5, _, _⟩ := ld7_at (gr.kp _ _ g2')
    rw [e2] at m5
    by_cases hlt : i < d'
    · have u5 : IntKind.i64.wrap ((i : Int) + 1) = i + 1 := w64 _ (by omega)
      have hd4 : (d' : Int) ≤ 4294967296 := by omega
      unfold c_ref52_MessageL0_0 c_ref52_MessageL0_1
      generalize hC3 : c_ref52_MessageL0_2 = C3
      rw [matF_snoc]
      simp [k2, k9, m5, hlt, hd4]
      intro b hb
      have gp := gr.new hb (List.replicate d' 0)
      rw [← rowP_zero (e := msgB k' d' l i)] at gp
      refine awp_for d' (fun j fr2 h2 => GrP h1 h2 (fr2 8) (matF i d' (msgB k' d' l)) b (rowP d' (msgB k' d' l i) j) ∧ fr2 11 = I j) ⟨by simpa [rowP_zero] using gp, by simp⟩ ?_
      clear gp hb gr m5
      intro j fr2 h2 hjn hk2 ⟨gp, m11⟩
      have n2 := hk2 2 (by decide)
      have n6 := hk2 6 (by decide)
      have n7 := hk2 7 (by decide)
      have n9 := hk2 9 (by decide)
      have n10 := hk2 10 (by decide)
      simp [k2, k6, k7, k9] at n2 n6 n7 n9 n10
      clear hk2
      obtain ⟨_, _, m4, m5, _, _⟩ := ld7_at (gp.kp _ _ g2')
      rw [e1] at m4
      rw [e2] at m5
      by_cases hjt : j < d'
      · have u6 : IntKind.i64.wrap ((j : Int) + 1) = j + 1 := w64 _ (by omega)
        have hdk : (d' : Int) - k' = ((d' - k' : Nat) : Int) := by omega
        have u7 : IntKind.i64.wrap ((d' : Int) - k') = ((d' - k' : Nat) : Int) := by rw [w64 _ (by omega)]; omega
        have hst := fun R => sr_ints (R := R) (v := msgB k' d' l i j) gp.ld (k := j) (by rw [rowP_len]; exact hjt)
        rw [rowP_set] at hst
        have gs := gp.set (rowP d' (msgB k' d' l i) (j + 1))
        by_cases ci : i < k'
        · by_cases cj : j < k'
          · have hrl := (q3.mono gp.kp).ld (i := i) (by rw [symL_len]; exact ci)
            rw [show ((symL k' l).getD i []).length = k' from matF_rlen ci] at hrl
            have hld := ld_ints_at ((q3.mono gp.kp).row i (by rw [symL_len]; exact ci)) (k := j) (by rw [show ((symL k' l).getD i []).length = k' from matF_rlen ci]; exact cj)
            have hval : ((symL k' l).getD i []).getD j 0 = msgB k' d' l i j := by
              rw [msgB, if_pos ⟨ci, cj⟩, symL, matF_row ci]
              simp [List.getD, cj]
            rw [hval] at hld
            generalize msgB k' d' l i j = y at *
            simp [n2, n6, n9, n10, m4, m5, m11, hjt, ci, cj, hrl, hld, hst, u6]
            exact gs
          · have hmul : i * (d' - k') + (d' - k') ≤ k' * (d' - k') := by
              have : (i + 1) * (d' - k') ≤ k' * (d' - k') := Nat.mul_le_mul_right _ (by omega)
              rwa [Nat.add_mul, Nat.one_mul] at this
            have hmm : (i : Int) * ((d' - k' : Nat) : Int) = ((i * (d' - k') : Nat) : Int) := by push_cast; rfl
            have v1 : IntKind.i64.wrap (((i * (d' - k') : Nat) : Int)) = ((i * (d' - k') : Nat) : Int) := w64 _ (by omega)
            have v2 : IntKind.i64.wrap (((i * (d' - k') : Nat) : Int) + j) = ((i * (d' - k') : Nat) : Int) + j := w64 _ (by omega)
            have v3 : IntKind.i64.wrap (((i * (d' - k') : Nat) : Int) + j - k') = ((i * (d' - k') + (j - k') : Nat) : Int) := by rw [w64 _ (by omega)]; omega
            have hdl : (l.drop (bas k' k')).length = l.length - bas k' k' := by simp
            have hia := i2.iadr (i := ((i * (d' - k') + (j - k') : Nat) : Int)) ⟨by omega, by omega⟩
            have hld := fun h' => ld_ints (h := h') (l := l.drop (bas k' k')) (k := i * (d' - k') + (j - k')) (by omega)
            have hval : (l.drop (bas k' k')).getD (i * (d' - k') + (j - k')) 0 = msgB k' d' l i j := by
              rw [msgB, if_neg (by omega), if_pos ci]; simp [List.getD]
            rw [hval] at hld
            rw [Int.toNat_natCast] at hia
            generalize msgB k' d' l i j = y at *
            generalize i * (d' - k') + (j - k') = ix at *
            generalize i * (d' - k') = im at *
            generalize d' - k' = dk at *
            simp [n2, n7, n9, n10, m4, m5, m11, hjt, ci, cj, hst, u6, u7, hmm, v1, v2, v3, hia, hld]
            exact gs
        · by_cases cj : j < k'
          · have hmul : j * (d' - k') + (d' - k') ≤ k' * (d' - k') := by
              have : (j + 1) * (d' - k') ≤ k' * (d' - k') := Nat.mul_le_mul_right _ (by omega)
              rwa [Nat.add_mul, Nat.one_mul] at this
            have hmm : (j : Int) * ((d' - k' : Nat) : Int) = ((j * (d' - k') : Nat) : Int) := by push_cast; rfl
            have v1 : IntKind.i64.wrap (((j * (d' - k') : Nat) : Int)) = ((j * (d' - k') : Nat) : Int) := w64 _ (by omega)
            have v2 : IntKind.i64.wrap (((j * (d' - k') : Nat) : Int) + i) = ((j * (d' - k') : Nat) : Int) + i := w64 _ (by omega)
            have v3 : IntKind.i64.wrap (((j * (d' - k') : Nat) : Int) + i - k') = ((j * (d' - k') + (i - k') : Nat) : Int) := by rw [w64 _ (by omega)]; omega
            have hdl : (l.drop (bas k' k')).length = l.length - bas k' k' := by simp
            have hia := i2.iadr (i := ((j * (d' - k') + (i - k') : Nat) : Int)) ⟨by omega, by omega⟩
            have hld := fun h' => ld_ints (h := h') (l := l.drop (bas k' k')) (k := j * (d' - k') + (i - k')) (by omega)
            have hval : (l.drop (bas k' k')).getD (j * (d' - k') + (i - k')) 0 = msgB k' d' l i j := by
              rw [msgB, if_neg (by omega), if_neg ci, if_pos cj]; simp [List.getD]
            rw [hval] at hld
            rw [Int.toNat_natCast] at hia
            generalize msgB k' d' l i j = y at *
            generalize j * (d' - k') + (i - k') = ix at *
            generalize j * (d' - k') = im at *
            generalize d' - k' = dk at *
            simp [n2, n7, n9, n10, m4, m5, m11, hjt, ci, cj, hst, u6, u7, hmm, v1, v2, v3, hia, hld]
            exact gs
          · have hz : msgB k' d' l i j = 0 := by rw [msgB, if_neg (by omega), if_neg ci, if_neg cj]
            rw [rowP_skip hz]
            simp [n2, n9, n10, m4, m5, m11, hjt, ci, cj, u6]
            exact gp
      · have : j = d' := by omega
        subst this
        subst hC3
        rw [rowP_all] at gp
        simp [n2, n9, n10, m5, m11]
        intro b5 hb5
        have ap := fun R => gp.app (R := R) hb5 (by rw [matF_len]; omega)
        rw [List.length_map, List.length_range] at ap
        refine ap _ fun v' h5 g5 => ?_
        simp [n9, u5, hlt]
        exact g5
    · have : i = d' := by omega
      subst this
      subst hC
      simp [k2, k9, m5]
      have := gr.ret (hkg.trans q1)
      unfold gml gl at this
      rw [if_neg (by rw [matF_len]; omega), matF_len] at this
      exact this
end Go.AM.Ytmihmgnjnedfcaa
end

section
/- Contracts of functions: Encode, on both sides. -/
set_option maxRecDepth 100000
set_option linter.unusedSimpArgs false
set_option linter.unusedVariables false
namespace Go.AM.Ytmihmgnjnedfcaa
open Go Go.AM
attribute [local simp ↓] awp_seq awp_reg awp_skip awp_cond' awp_block awp_exit awp_ret awp_fz thenW_normal thenW_exit thenW_ret inBlk_normal inBlk_exit inBlk_ret aops_cons' contA_ap aops_nil e_mv e_guard' e_pick' e_ld' e_app e_cpy e_st' e_call callW_f updO_some updO_none e_bin' e_isnil' e_fadr' e_iadr' e_iarr' e_len' e_build' e_mkf' e_nc' e_not' e_neg' e_cvt' e_slc' e_fld' e_ext' e_min' e_eqs' e_new e_box e_mkl e_mks
attribute [local simp] upd_apply ev_t ev_k ev_f binA_add binA_sub binA_mul binA_quo binA_rem binA_eql binA_neq binA_lss binA_leq binA_gtr binA_geq det mem frame0 keeps_nil iadrA_sl fadrA_ref fadrA_fp ldv_agg ldv_one cells_base hset_same hset_hset lenA_fs lenA_sl lenA_nils zeros_ints ints_length one_base one_nilp one_nils one_ref one_sl one_fp one_fs one_fn gl_one resA resOf bound natOf afill splice AV.cells cells_agg bindR_some condR_true condR_false guardR_tup guardR_true guardR_true' guardR_false guardR_false' allocW_some pickA_true pickA_false
open Go.FM

theorem msgL_len {R : Rc} (ok : R.Okn) {k d : Nat} (hk : R.k = k) (hd : R.d = d) (l : List Int) : (msgL (decide (R.kd = 1)) k d l).length = d := by
  obtain ⟨k', d', e1, e2, e3, e4, e5, e6, e7⟩ := ok.nums
  obtain rfl : k' = k := by omega
  obtain rfl : d' = d := by omega
  by_cases kd : R.kd = 1
  · obtain ⟨f1, f2, f3, f4⟩ := e6 kd
    rw [decide_eq_true kd, msgL_st, List.length_append, symL_len, symL_len]; omega
  · rw [decide_eq_false kd, msgL_bw, matF_len]

theorem matF_mem {r c : Nat} {e : Nat → Nat → Int} {row : List Int} (h : row ∈ matF r c e) : row.length = c ∧ ∀ x ∈ row, ∃ i j, x = e i j := by
  obtain ⟨i, _, rfl⟩ := List.mem_map.1 h
  refine ⟨by simp, fun x hx => ?_⟩
  obtain ⟨j, _, rfl⟩ := List.mem_map.1 hx
  exact ⟨i, j, rfl⟩

theorem msgL_row {R : Rc} (ok : R.Okn) {k d : Nat} (hk : R.k = k) (hd : R.d = d) {l : List Int} {row : List Int} (h : row ∈ msgL (decide (R.kd = 1)) k d l) : (row.length : Int) = R.szN ∧ ∀ x ∈ row, x = 0 ∨ ∃ i, x = l.getD i 0 := by
  obtain ⟨k', d', e1, e2, e3, e4, e5, e6, e7⟩ := ok.nums
  obtain rfl : k' = k := by omega
  obtain rfl : d' = d := by omega
  by_cases kd : R.kd = 1
  · obtain ⟨f1, f2, f3, f4⟩ := e6 kd
    rw [decide_eq_true kd, msgL_st] at h
    rcases List.mem_append.1 h with h | h
    · obtain ⟨h1, h2⟩ := matF_mem h
      refine ⟨by omega, fun x hx => ?_⟩
      obtain ⟨i, j, rfl⟩ := h2 x hx
      exact .inr ⟨_, rfl⟩
    · obtain ⟨h1, h2⟩ := matF_mem h
      refine ⟨by omega, fun x hx => ?_⟩
      obtain ⟨i, j, rfl⟩ := h2 x hx
      refine .inr ⟨bas (k' - 1) (k' - 1) + ixS (k' - 1) (min i j) (max i j), ?_⟩
      simp [List.getD]
  · have hkd : R.kd = 0 := by rcases ok.kd with hh | hh <;> omega
    obtain ⟨f3, f4⟩ := e7 hkd
    rw [decide_eq_false kd, msgL_bw] at h
    obtain ⟨h1, h2⟩ := matF_mem h
    refine ⟨by omega, fun x hx => ?_⟩
    obtain ⟨i, j, rfl⟩ := h2 x hx
    unfold msgB
    split
    · exact .inr ⟨_, rfl⟩
    · split
      · exact .inr ⟨_, rfl⟩
      · split
        · exact .inr ⟨_, rfl⟩
        · exact .inl rfl

/-- The message matrix of a code. -/
def Rc.msg (R : Rc) (l : List Int) : List (List Int) := msgL (decide (R.kd = 1)) R.k.toNat R.d.toNat l
/-- The contents of all nodes. -/
def Rc.enc (R : Rc) (l : List Int) : List (List Int) := R.pts.map fun x => combK R.D (pwL R.D x R.d.toNat) (R.msg l) R.szN.toNat R.d.toNat
open Classical in
noncomputable def Rc.encE (R : Rc) (l : List Int) : Int := if R.E ≠ 0 then R.E else elE R.D l R.szF
open Classical in
noncomputable def Rc.encR (R : Rc) (l : List Int) : AV := if R.encE l = 0 then .tup [gml (R.enc l), I 0] else .tup [.nils, I (R.encE l)]

theorem elE_zero {D : Ds} {l : List Int} {n : Int} (h : elE D l n = 0) : (l.length : Int) = n ∧ ∀ x ∈ l, D.R x := by
  unfold elE at h
  split at h
  · omega
  · rename_i h1
    split at h
    · rename_i h2; exact ⟨by omega, h2⟩
    · omega

theorem R_zero {D : Ds} (r : Rg D) : D.R 0 := ⟨by omega, by have := r.toOk.q2; omega⟩
theorem getD_R {D : Ds} (r : Rg D) {l : List Int} (h : ∀ x ∈ l, D.R x) (i : Nat) : D.R (l.getD i 0) := by
  by_cases hi : i < l.length
  · exact h _ (mem_getD hi)
  · rw [show l.getD i 0 = 0 by simp [List.getD, List.getElem?_eq_none (show l.length ≤ i by omega)]]; exact R_zero r

theorem mulE_enc {R : Rc} (hE : R.E = 0) {l : List Int} (hl : ∀ x ∈ l, R.D.R x) : mulR R.p R.m R.mo R.d (R.pts.map fun x => pwL R.D x R.d.toNat) R.szN (R.msg l) = .tup [.agg [I R.szN, gml (R.enc l)], I 0] := by
  classical
  obtain ⟨hf, e2, e3, ok, e5, e6, _⟩ := Rc.E0 hE
  have r := hf.fd
  obtain ⟨k, d, n1, n2, n3, n4, n5, _⟩ := ok.nums
  have hk : R.k.toNat = k := by omega
  have hd : R.d.toNat = d := by omega
  have hsn := ok.szN
  have hml := msgL_len ok n1 n2 l
  have c1 : chkE R.D R.d (R.pts.map fun x => pwL R.D x R.d.toNat) = 0 := by
    unfold chkE
    rw [if_neg (by rw [List.length_map]; omega), if_neg, if_pos]
    · intro row hr x hx
      obtain ⟨y, hy, rfl⟩ := List.mem_map.1 hr
      obtain ⟨i, _, rfl⟩ := pwL_mem.1 hx
      exact r.toOk.pwR y i
    · intro hc
      apply hc
      intro row hr
      obtain ⟨y, hy, rfl⟩ := List.mem_map.1 hr
      rw [pwL_len]; omega
  have c2 : chkE R.D R.szN (R.msg l) = 0 := by
    unfold chkE Rc.msg
    rw [hk, hd, if_neg (by rw [hml]; omega), if_neg, if_pos]
    · intro row hr x hx
      rcases (msgL_row ok n1 n2 hr).2 x hx with rfl | ⟨i, rfl⟩
      · exact R_zero r.toRg
      · exact getD_R r.toRg hl i
    · intro hc
      apply hc
      intro row hr
      exact (msgL_row ok n1 n2 hr).1
  have ho : openE R.p R.m R.mo [(R.d, R.pts.map fun x => pwL R.D x R.d.toNat), (R.szN, R.msg l)] = 0 := by
    unfold openE
    rw [if_pos hf]
    simp only [chkAll]
    rw [if_neg (by simpa using c1), if_neg (by simpa using c2)]
  have he : mulE R.p R.m R.mo R.d (R.pts.map fun x => pwL R.D x R.d.toNat) R.szN (R.msg l) = 0 := by
    unfold mulE
    rw [if_neg (by simpa using ho), if_neg]
    unfold Rc.msg
    rw [hk, hd, hml]; omega
  unfold mulR
  rw [if_pos he]
  have : mulL R.D (R.pts.map fun x => pwL R.D x R.d.toNat) (R.msg l) R.szN.toNat = R.enc l := by
    unfold mulL Rc.enc
    rw [List.map_map]
    refine List.map_congr_left fun x _ => ?_
    simp only [Function.comp_apply, pwL_len]
  rw [this]

set_option maxHeartbeats 4000000 in
theorem s_Encode {R : Rc} {mv pv v : AV} (hmv : IL mv R.mo) (hml : R.mo.length < 4611686018427387904) (hpv : IL pv R.pts) (hpl : R.pts.length < 4611686018427387904) {l : List Int} (hv : IL v l) (hll : l.length < 4611686018427387904) :
    Pure prog n_regenerate_Encode [.agg (R.cells mv pv), v] (R.encR l) := by
  classical
  refine pure_of cf_regenerate_Encode rfl fun h => ?_
  have hone := hmv.one
  have hone2 := hpv.one
  simp [hone, hone2]
  intro b2 hb2
  obtain ⟨l0, l3, l4, l5, l6, l7⟩ := ld7_at (hset_same h b2 (R.cells mv pv))
  have hkg : Kp h (hset h b2 (R.cells mv pv)) := (Kp.refl h).new hb2 _
  generalize hset h b2 (R.cells mv pv) = g at *
  have bad : ∀ e, R.encE l = e → e ≠ 0 → RetP h (R.encR l) (.tup [.nils, I e]) g := fun e he h0 => by
    rw [Rc.encR, if_neg (by rw [he]; exact h0), he]; exact ⟨_, hkg.sub, .id _, rfl⟩
  simp [l7]
  refine (s_regCheck hmv hml hpv hpl).call ?_
  by_cases hE : R.E = 0
  case neg =>
    simp [hE]
    exact bad _ (by rw [Rc.encE, if_pos hE]) hE
  have hE2 : R.encE l = elE R.D l R.szF := by rw [Rc.encE, if_neg (by simpa using hE)]
  obtain ⟨hf, e2, e3, ok, e5, _⟩ := Rc.E0 hE
  have r := hf.fd
  rw [hE]
  simp [l0]
  refine (s_New R.p R.m hmv hml).call ?_
  rw [newR_pos hf]
  simp [l7]
  refine (s_sizes ok hone hone2).call ?_
  simp
  refine (s_elements r hv hll R.szF).call ?_
  by_cases he : elE R.D l R.szF = 0
  case neg =>
    simp [he]
    exact bad _ hE2 he
  rw [he]
  obtain ⟨hlen, hlR⟩ := elE_zero he
  have hV : R.encR l = .tup [gml (R.enc l), I 0] := by rw [Rc.encR, if_pos (by rw [hE2, he])]
  rw [hV]
  obtain ⟨k, d, n1, n2, n3, n4, n5, _⟩ := ok.nums
  have hk : R.k.toNat = k := by omega
  have hd : R.d.toNat = d := by omega
  have hrw := s_rows r hpv (by omega) d (by omega)
  have hms := s_message ok hone hone2 hv hlen n1 n2
  have hmu := s_matMul (p := R.p) (m := R.m) hmv hml (ca := R.d) (cb := R.szN) (ML_gml (R.pts.map fun x => pwL R.D x R.d.toNat)) (ML_fs (R.msg l)) ⟨by rw [List.length_map]; omega, fun row hr => by
      obtain ⟨y, hy, rfl⟩ := List.mem_map.1 hr
      rw [pwL_len]; omega⟩ ⟨by unfold Rc.msg; rw [hk, hd, msgL_len ok n1 n2]; omega, fun row hr => by
      unfold Rc.msg at hr
      rw [hk, hd] at hr
      have := (msgL_row ok n1 n2 hr).1
      have := ok.szN
      omega⟩
  rw [mulE_enc hE hlR] at hmu
  unfold Rc.msg at hmu
  rw [hk, hd] at hmu
  rw [n2] at hmu
  rw [n2] at l5
  generalize hcs : R.cells mv pv = cs at *
  have l7' : cellsAt g (.ref b2 0) 7 = some cs := by rw [← hcs]; exact l7
  simp [l0, l6, l5, l7']
  refine hrw.call ?_
  simp
  refine hms.call ?_
  simp
  refine hmu.call ?_
  simp
  intro b12 hb12
  have sra := fun R' => sr_all (R := R') (cs' := [I R.szN, gml (R.enc l)]) (hset_same g b12 [I 0, .nils]) (n := 2) rfl rfl (by
    show (one (I R.szN) && (one (gml (R.enc l)) && true)) = true
    rw [show one (gml (R.enc l)) = true from gl_one ..]; rfl)
  have ls := lq_snd (hset_same g b12 [I R.szN, gml (R.enc l)])
  simp [sra, ls]
  exact ⟨_, (hkg.new hb12 _).sub, .id _, rfl⟩
set_option maxHeartbeats 4000000 in
theorem s_refEncode {R : Rc} (hE : R.E = 0) {mv pv v : AV} (hmv : IL mv R.mo) (hpv : IL pv R.pts) {l : List Int} (hv : IL v l) (hlen : (l.length : Int) = R.szF) :
    Pure prog n_ref52_Encode [.agg (R.cells mv pv), v] (gml (R.enc l)) := by
  refine pure_of cf_ref52_Encode rfl fun h => ?_
  have hone := hmv.one
  have hone2 := hpv.one
  obtain ⟨hf, e2, e3, ok, e5, _⟩ := Rc.E0 hE
  have r := hf.fd
  obtain ⟨k, d, n1, n2, n3, n4, n5, _⟩ := ok.nums
  have hsn := ok.szN
  have hms := s_refMessage ok hone hone2 hv hlen n1 n2
  have hM : ML (.fs (msgL (decide (R.kd = 1)) k d l).length ((msgL (decide (R.kd = 1)) k d l).map frow)) (msgL (decide (R.kd = 1)) k d l) := ML_fs _
  have hm1 := msgL_len ok n1 n2 l
  have hm2 := fun row hr => (msgL_row (row := row) ok n1 n2 (l := l) hr).1
  obtain ⟨a, ha⟩ : ∃ a : Nat, R.szN = a := ⟨R.szN.toNat, by omega⟩
  have hen : R.enc l = R.pts.map fun x => combK R.D (pwL R.D x d) (msgL (decide (R.kd = 1)) k d l) a d := by
    have hk : R.k.toNat = k := by omega
    have hd : R.d.toNat = d := by omega
    have ha' : R.szN.toNat = a := by omega
    unfold Rc.enc Rc.msg
    rw [hk, hd, ha']
  rw [hen]
  have hsz := s_refSize ok hone hone2
  rw [ha] at hsz hm2
  generalize msgL (decide (R.kd = 1)) k d l = M at *
  simp [hone, hone2]
  intro b2 hb2
  obtain ⟨l0, l3, l4, l5, l6, l7⟩ := ld7_at (hset_same h b2 (R.cells mv pv))
  have hkg : Kp h (hset h b2 (R.cells mv pv)) := (Kp.refl h).new hb2 _
  have hg2 : (hset h b2 (R.cells mv pv)) b2 = some (R.cells mv pv) := hset_same ..
  generalize hset h b2 (R.cells mv pv) = g at *
  simp [l7]
  refine hms.call ?_
  simp [l7]
  refine hsz.call ?_
  simp
  refine awp_for R.pts.length (fun i fr' h' => (∃ v, fr' 8 = v ∧ Own 1 g h' v i (((R.pts.take i).map fun x => combK R.D (pwL R.D x d) M a d).map frow)) ∧ fr' 9 = I i) ⟨⟨.nils, by simp, by simpa using Own.nils 1 g⟩, by simp⟩ ?_
  intro i fr' h' hkn hk ⟨⟨va, k8, own⟩, k9⟩
  have k2 := hk 2 (by decide)
  have k5 := hk 5 (by decide)
  have k7 := hk 7 (by decide)
  simp at k2 k5 k7
  clear hk
  obtain ⟨m0, _, _, _, m6, m7⟩ := ld7_at (own.rd hg2)
  by_cases hlt : i < R.pts.length
  · have u1 : IntKind.i64.wrap ((i : Int) + 1) = i + 1 := w64 _ (by omega)
    have hvc := s_Vector hf hmv hpv (i := i) ⟨by omega, by omega⟩ n2 (by omega)
    rw [Int.toNat_natCast] at hvc
    rw [take_getD (d := 0) hlt, List.map_append, List.map_append]
    generalize R.pts.getD i 0 = x at *
    have hIv2 : IL (gl d (ints (pwL R.D x d))) (pwL R.D x d) := by
      unfold IL; rw [pwL_len]; exact gl_SV (by rw [ints_length, pwL_len]; omega)
    have hco := s_Combine r hmv hIv2 hM (by rw [pwL_len]; omega) (by omega) (n := a) (by omega) (fun j hj => by have := hm2 _ (mem_getD (d := []) hj); omega)
    rw [hf.1.dp, hf.1.dm, pwL_len, show min M.length d = d by omega] at hco
    have e : ([x].map fun x => combK R.D (pwL R.D x d) M a d).map frow = [AV.fs a (ints (combK R.D (pwL R.D x d) M a d))] := by
      rw [List.map_singleton, List.map_singleton, frow, combK_len]
    rw [e]
    generalize ((R.pts.take i).map fun x => combK R.D (pwL R.D x d) M a d).map frow = cs at *
    generalize hcs : R.cells mv pv = rc at *
    have m7' : cellsAt h' (.ref b2 0) 7 = some rc := by rw [← hcs]; exact m7
    simp [k2, k5, k7, k8, k9, m0, m6, m7', hpv.len, hlt]
    refine hvc.call ?_
    simp
    refine hco.call ?_
    simp
    intro b hb
    refine own.app1 (m := 1) hb (by simp) (by omega) fun v' h3 o3 => ?_
    simp [k9, u1, hlt]
    exact o3
  · have : i = R.pts.length := by omega
    subst this
    rw [List.take_length] at own
    simp [k2, k8, k9, m6, hpv.len]
    exact own.ret hkg (by rw [gml, List.length_map])

/-- The law of the contents of all nodes. -/
theorem enc_rows {R : Rc} {l : List Int} {row : List Int} (h : row ∈ R.enc l) : row.length = R.szN.toNat := by
  obtain ⟨x, _, rfl⟩ := List.mem_map.1 h
  rw [combK_len]

set_option maxHeartbeats 2000000 in
theorem s_RegenerateEncodes {R : Rc} {mv pv v : AV} (hmv : IL mv R.mo) (hml : R.mo.length < 4611686018427387904) (hpv : IL pv R.pts) (hpl : R.pts.length < 4611686018427387904) {l : List Int} (hv : IL v l) (hll : l.length < 4611686018427387904) :
    Pure prog n_law52_RegenerateEncodes [.agg (R.cells mv pv), v] (B true) := by
  classical
  refine pure_of cf_law52_RegenerateEncodes rfl fun h => ?_
  have hone := hmv.one
  have hone2 := hpv.one
  simp [hone, hone2]
  intro b3 hb3
  obtain ⟨l0, l3, l4, l5, l6, l7⟩ := ld7_at (hset_same h b3 (R.cells mv pv))
  have hkg : Kp h (hset h b3 (R.cells mv pv)) := (Kp.refl h).new hb3 _
  generalize hset h b3 (R.cells mv pv) = g at *
  have fin : RetP h (B true) (B true) g := ⟨_, hkg.sub, .id _, rfl⟩
  by_cases n1 : 12 < R.pts.length
  · have n1' : 12 < (R.pts.length : Int) := by omega
    simp [l6, hpv.len, n1, n1']
    exact fin
  have n1' : ¬ 12 < (R.pts.length : Int) := by omega
  simp [l6, l7, hpv.len, n1, n1']
  refine (s_Encode hmv hml hpv hpl hv hll).call ?_
  by_cases hE : R.E = 0
  case neg =>
    have h1 : R.encE l = R.E := by rw [Rc.encE, if_pos hE]
    rw [Rc.encR, if_neg (by rw [h1]; exact hE), h1]
    simp [l7]
    refine (s_refCheck52 hmv hml hpv hpl).call ?_
    simp [hE]
    exact fin
  have hE2 : R.encE l = elE R.D l R.szF := by rw [Rc.encE, if_neg (by simpa using hE)]
  obtain ⟨hf, e2, e3, ok, e5, _⟩ := Rc.E0 hE
  have hck := s_refCheck52 hmv hml hpv hpl
  rw [hE] at hck
  have r := hf.fd
  have hli := s_List r.toRg hone hv hll R.szF
  rw [hf.1.dp, hf.1.dm] at hli
  by_cases he : elE R.D l R.szF = 0
  case neg =>
    rw [Rc.encR, if_neg (by rw [hE2]; exact he), hE2]
    simp [l7]
    refine hck.call ?_
    simp [l7]
    refine (s_refSize ok hone hone2).call ?_
    simp [l0]
    refine hli.call ?_
    simp [he]
    exact fin
  rw [he] at hE2 hli
  obtain ⟨hlen, hlR⟩ := elE_zero he
  rw [Rc.encR, if_pos hE2]
  have hre := s_refEncode hE hmv hpv hv hlen
  have hM := ML_gml (R.enc l)
  have hsame := s_SameRows hM hM (by unfold Rc.enc; rw [List.length_map]; omega) (fun i hi => by rw [enc_rows (mem_getD hi)]; have := ok.szN; omega)
  rw [decide_eq_true rfl] at hsame
  generalize gml (R.enc l) = x at *
  simp [l7]
  refine hck.call ?_
  simp [l7]
  refine (s_refSize ok hone hone2).call ?_
  simp [l0]
  refine hli.call ?_
  simp [l7]
  refine hre.call ?_
  simp
  refine hsame.call ?_
  simp
  exact fin
end Go.AM.Ytmihmgnjnedfcaa
end
