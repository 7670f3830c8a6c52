/- Contracts of functions: the reference's irreducible and Check. -/
import Derived.Test.YtmihmgnjnedfcaaF6
set_option maxRecDepth 100000
set_option linter.unusedSimpArgs false
set_option linter.unusedVariables false
namespace Go.AM.Ytmihmgnjnedfcaa
open Go Go.AM
attribute [local simp ↓] awp_seq awp_reg awp_skip awp_cond awp_block awp_exit awp_ret awp_fz thenW_normal thenW_exit thenW_ret inBlk_normal inBlk_exit inBlk_ret aops_cons aops_nil e_mv e_guard e_pick e_ld e_app e_cpy e_st e_call callW_f updO_some updO_none e_bin e_isnil e_fadr e_iadr e_iarr e_len e_build e_mkf e_nc e_not e_neg e_cvt e_slc e_fld e_ext e_min e_eqs e_new e_box e_mkl e_mks
attribute [local simp] upd_apply ev_t ev_k ev_f binA_add binA_sub binA_mul binA_quo binA_rem binA_eql binA_neq binA_lss binA_leq binA_gtr binA_geq det mem frame0 keeps_nil iadrA_sl fadrA_ref fadrA_fp ldv_agg ldv_one cells_base hset_same hset_hset lenA_fs lenA_sl lenA_nils zeros_ints ints_length one_base one_nilp one_nils one_ref one_sl one_fp one_fs one_fn gl_one resA resOf bound natOf afill splice AV.cells cells_agg bindW_some condW_true condW_false condW_dec condW_ndec guardW_tup guardW_true guardW_true' guardW_false guardW_false' allocW_some pickA_true pickA_false
open Go.FM

open Classical in
set_option maxHeartbeats 2000000 in
theorem s_irreducible {w : AV} {mo : List Int} (hw : IL w mo) {p : Nat} (hp : 2 ≤ p) (hp2 : p ≤ 256) (hmo : Dg p mo) (h3 : mo.length ≤ 8) (hq : (p : Int) ^ mo.length ≤ 256) :
    Pure prog n_ref04_irreducible [w, I p] (B (decide (Irr p mo))) := by
  refine pure_of cf_ref04_irreducible rfl fun h => ?_
  have hpI : (2 : Int) ≤ p := by omega
  simp
  refine awp_for (mo.length / 2) (fun k fr' h' => h' = h ∧ fr' 6 = I (k + 1) ∧ fr' 5 = I (p ^ k) ∧ ∀ d v : Nat, 1 ≤ d → d ≤ k → (v : Int) < p ^ d → ¬ Dv p (digs p d v) mo)
    ⟨rfl, by simp, by simp, fun d v h1 h2 => by omega⟩ ?_
  intro k fr' h' hkn hk ⟨hh, k6, k5, hx⟩
  subst hh
  have k0 := hk 0 (by decide)
  have k1 := hk 1 (by decide)
  simp at k0 k1
  clear hk
  have u1 : IntKind.i64.wrap (2 * ((k : Int) + 1)) = 2 * (k + 1) := w64 _ (by omega)
  by_cases hc : 2 * (k + 1) ≤ mo.length
  case neg =>
    have hc' : ¬ 2 * ((k : Int) + 1) ≤ mo.length := by omega
    simp [k6, k0, hw.len, u1, hc']
    rw [show decide (Irr p mo) = true from decide_eq_true fun d v h1 h2 h3 => hx d v h1 (by omega) h3]
    exact RetP.same
  have hc' : 2 * ((k : Int) + 1) ≤ mo.length := by omega
  have hple : (p : Int) ^ (k + 1) ≤ 256 := Int.le_trans (pow_mono hpI (by omega)) hq
  have hpp := pow_pos2 hpI (k + 1)
  have hps : (p : Int) ^ (k + 1) = p ^ k * p := Int.pow_succ ..
  have u2 : IntKind.i64.wrap ((p : Int) ^ k * p) = p ^ (k + 1) := by rw [← hps]; exact w64 _ (by omega)
  obtain ⟨C, hC⟩ : ∃ C : Nat, (p : Int) ^ (k + 1) = C := ⟨((p : Int) ^ (k + 1)).toNat, by omega⟩
  rw [hC] at u2
  simp [k6, k5, k0, k1, hw.len, u1, hc', u2]
  refine awp_for C (fun v fr2 h2 => h2 = h' ∧ fr2 7 = I v ∧ ∀ t : Nat, t < v → ¬ Dv p (digs p (k + 1) t) mo) ⟨rfl, by simp, fun t ht => by omega⟩ ?_
  intro v fr2 h2 hvn hk2 ⟨hh, k7, hz⟩
  subst hh
  have m0 := hk2 0 (by decide)
  have m1 := hk2 1 (by decide)
  have m5 := hk2 5 (by decide)
  have m6 := hk2 6 (by decide)
  simp [k0, k1, k6, k5] at m0 m1 m5 m6
  clear hk2
  by_cases hv : v < C
  · have hv' : (v : Int) < C := by omega
    have hdl := digs_length (p : Int) (k + 1) v
    have hIL := IL.fs (digs (p : Int) (k + 1) v)
    rw [hdl] at hIL
    have hcall := s_digits (x := (v : Int)) (p := (p : Int)) (m := k + 1) ⟨by omega, by omega⟩ hpI (by omega)
    have hk1' : (((k + 1 : Nat) : Int)) = (k : Int) + 1 := by omega
    rw [hk1'] at hcall
    simp [k7, m0, m1, m5, m6, hv']
    refine hcall.call ?_
    refine (s_divides hIL hw hp hp2 (digs_Dg (by omega) _ _) hmo (by rw [hdl]; omega) (by rw [hdl]; omega) h3).call ?_
    by_cases hd : Dv p (digs p (k + 1) v) mo
    · simp [hd]
      rw [show decide (Irr p mo) = false from decide_eq_false fun hi => hi (k + 1) v (by omega) hc (by rw [hC]; omega) hd]
      exact RetP.same
    · have u3 : IntKind.i64.wrap ((v : Int) + 1) = v + 1 := w64 _ (by omega)
      simp [hd, k7, u3]
      refine ⟨hv, fun t ht => ?_⟩
      by_cases htv : t = v
      · subst htv; exact hd
      · exact hz t (by omega)
  · have hv' : ¬ (v : Int) < C := by omega
    have : v = C := by omega
    have u3 : IntKind.i64.wrap ((k : Int) + 1 + 1) = k + 1 + 1 := w64 _ (by omega)
    simp [k7, m5, m6, hv', u3, hC]
    refine ⟨by omega, fun d t h1 h2 h4 => ?_⟩
    by_cases hdk : d = k + 1
    · subst hdk
      rw [hC] at h4
      exact hz t (by omega)
    · exact hx d t h1 (by omega) h4

open Classical in
/-- The reference's answer on a description. -/
noncomputable def fieldE (p m : Int) (mo : List Int) : Int := if FieldP p m mo then 0 else 1

open Classical in
theorem s_refCheck (p m : Int) {mv : AV} {mo : List Int} (hmv : IL mv mo) (hml : mo.length < 4611686018427387904) : Pure prog n_ref04_Check [.agg [I p, I m, mv]] (I (fieldE p m mo)) := by
  refine pure_of cf_ref04_Check rfl fun h => ?_
  have hone := hmv.one
  simp [hone]
  intro b1 hb1
  obtain ⟨l0, l1, l2, l3⟩ := ld3_at (hset_same h b1 [I p, I m, mv])
  have hkg : Kp h (hset h b1 [I p, I m, mv]) := (Kp.refl h).new hb1 _
  generalize hset h b1 [I p, I m, mv] = g at *
  have bad : ¬ FieldP p m mo → RetP h (I (fieldE p m mo)) (I 1) g := fun hb => by
    rw [fieldE, if_neg hb]; exact ⟨_, hkg.sub, .id _, rfl⟩
  have good : FieldP p m mo → RetP h (I (fieldE p m mo)) (I 0) g := fun hb => by
    rw [fieldE, if_pos hb]; exact ⟨_, hkg.sub, .id _, rfl⟩
  simp [l3]
  refine (s_Order p m hone).call ?_
  by_cases d0 : ordE p m = 0
  · simp [d0]
    exact bad fun hs => hs.1.1 d0
  have h1 := ordE_ne d0
  simp [d0, l0]
  obtain ⟨pn, rfl⟩ : ∃ n : Nat, p = n := ⟨p.toNat, by omega⟩
  refine (s_prime pn (by omega) (by omega)).call ?_
  by_cases d1 : IsP pn
  case neg =>
    simp [d1]
    exact bad fun hs => d1 (by simpa using hs.1.2.1)
  by_cases d2 : m = 1
  · subst d2
    by_cases d3 : mo = []
    · subst d3
      simp [d1, l1, l2, hmv.len]
      exact good ⟨⟨d0, by simpa using d1, by rw [if_pos rfl]⟩, .inl rfl⟩
    · have d3' : ¬ mo.length = 0 := fun hc => d3 (List.eq_nil_of_length_eq_zero hc)
      simp [d1, l1, l2, hmv.len, d3, d3']
      exact bad fun hs => by have := hs.1.2.2; rw [if_pos rfl] at this; exact d3 this
  by_cases d3 : (mo.length : Int) = m
  case neg =>
    simp [d1, l1, d2, l2, hmv.len, d3]
    exact bad fun hs => by have := hs.1.2.2; rw [if_neg d2] at this; exact d3 this.1
  simp [d1, l1, d2, l2, hmv.len, d3]
  refine awp_for mo.length (fun k fr' h' => h' = g ∧ fr' 3 = I k ∧ ∀ c ∈ mo.take k, 0 ≤ c ∧ c < (pn : Int)) ⟨rfl, by simp, by simp⟩ ?_
  intro k fr' h' hkn hk ⟨hh, k3, hx⟩
  subst hh
  have k1 := hk 1 (by decide)
  simp at k1
  clear hk
  by_cases hlt : k < mo.length
  · have hlt' : (k : Int) < m := by omega
    have hia := hmv.iadr (i := k) ⟨by omega, by omega⟩
    simp at hia
    have hld := fun h' => ld_ints (h := h') hlt
    have hmem : mo.getD k 0 ∈ mo := by simp only [List.getD, List.getElem?_eq_getElem hlt, Option.getD_some]; exact List.getElem_mem hlt
    have htk : mo.take (k + 1) = mo.take k ++ [mo.getD k 0] := by rw [List.take_succ_eq_append_getElem hlt]; simp [List.getD, hlt]
    rw [htk]
    generalize mo.getD k 0 = y at *
    by_cases e1 : y < 0
    · simp [k1, k3, hlt', l0, l1, l2, hia, hld, e1]
      exact bad fun hs => by have := hs.1.2.2; rw [if_neg d2] at this; have := this.2 y hmem; omega
    by_cases e2 : (pn : Int) ≤ y
    · simp [k1, k3, hlt', l0, l1, l2, hia, hld, e1, e2]
      exact bad fun hs => by have := hs.1.2.2; rw [if_neg d2] at this; have := this.2 y hmem; omega
    have u1 : IntKind.i64.wrap ((k : Int) + 1) = k + 1 := w64 _ (by omega)
    simp [k1, k3, hlt', l0, l1, l2, hia, hld, e1, e2, u1]
    refine ⟨by omega, fun c hc => ?_⟩
    rcases hc with hc | hc
    · exact hx c hc
    · omega
  · have : k = mo.length := by omega
    subst this
    have hlt' : ¬ ((mo.length : Nat) : Int) < m := by omega
    rw [List.take_length] at hx
    have hsh : ShapeP pn m mo := ⟨d0, by simpa using d1, by rw [if_neg d2]; exact ⟨d3, hx⟩⟩
    have hpw : (pn : Int) ^ mo.length ≤ 256 := by
      have := h1.2.2.2.2.1
      rwa [show m.toNat = mo.length by omega] at this
    simp [k1, k3, hlt', l0, l1, l2]
    refine (s_irreducible hmv (by omega) (by omega) hx (by omega) hpw).call ?_
    by_cases di : Irr pn mo
    · simp [di]
      exact good ⟨hsh, .inr di⟩
    · simp [di]
      exact bad fun hs => by rcases hs.2 with hs | hs; exact d2 hs; exact di hs
end Go.AM.Ytmihmgnjnedfcaa
