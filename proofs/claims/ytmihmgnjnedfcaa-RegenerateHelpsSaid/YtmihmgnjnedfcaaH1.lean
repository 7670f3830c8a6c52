/- Contracts of functions: lists of elements, vectors of powers, the symbol of a helper. -/
import Derived.Test.YtmihmgnjnedfcaaF12
import Derived.Test.YtmihmgnjnedfcaaR3
import Derived.Test.YtmihmgnjnedfcaaC6
set_option maxRecDepth 100000
set_option linter.unusedSimpArgs false
set_option linter.unusedVariables false
namespace Go.AM.Ytmihmgnjnedfcaa
open Go Go.AM
attribute [local simp ↓] awp_seq awp_reg awp_skip awp_cond' awp_block awp_exit awp_ret awp_fz thenW_normal thenW_exit thenW_ret inBlk_normal inBlk_exit inBlk_ret aops_cons' contA_ap aops_nil e_mv e_guard' e_pick' e_ld' e_app e_cpy e_st' e_call callW_f updO_some updO_none e_bin' e_isnil' e_fadr' e_iadr' e_iarr' e_len' e_build' e_mkf' e_nc' e_not' e_neg' e_cvt' e_slc' e_fld' e_ext' e_min' e_eqs' e_new e_box e_mkl e_mks
attribute [local simp] upd_apply ev_t ev_k ev_f binA_add binA_sub binA_mul binA_quo binA_rem binA_eql binA_neq binA_lss binA_leq binA_gtr binA_geq det mem frame0 keeps_nil iadrA_sl fadrA_ref fadrA_fp ldv_agg ldv_one cells_base hset_same hset_hset lenA_fs lenA_sl lenA_nils zeros_ints ints_length one_base one_nilp one_nils one_ref one_sl one_fp one_fs one_fn gl_one resA resOf bound natOf afill splice AV.cells cells_agg bindR_some condR_true condR_false guardR_tup guardR_true guardR_true' guardR_false guardR_false' allocW_some pickA_true pickA_false
open Go.FM

open Classical in
/-- The answer on a list that must have n elements. -/
noncomputable def elE (D : Ds) (l : List Int) (n : Int) : Int := if (l.length : Int) ≠ n then 4 else if ∀ x ∈ l, D.R x then 0 else 2

theorem s_elements {D : Ds} (r : Fd D) {v : AV} {l : List Int} (hv : IL v l) (hl : l.length < 4611686018427387904) (n : Int) : Pure prog n_regenerate_elements [.fp (gfC D), v, I n] (I (elE D l n)) := by
  classical
  refine pure_of cf_regenerate_elements rfl fun h => ?_
  unfold elE
  by_cases hn : (l.length : Int) = n
  case neg =>
    rw [if_pos hn]
    simp [hv.len, hn]
    exact RetP.same
  subst hn
  rw [if_neg (by simp)]
  simp [hv.len]
  refine awp_for l.length (fun k fr' h' => h' = h ∧ fr' 15 = I k ∧ ∀ x ∈ l.take k, D.R x) ⟨rfl, by simp, by simp⟩ ?_
  intro k fr' h' hkn hk ⟨hh, k15, hx⟩
  subst hh
  have k0 := hk 0 (by decide)
  have k13 := hk 13 (by decide)
  have k14 := hk 14 (by decide)
  simp at k0 k13 k14
  clear hk
  by_cases hlt : k < l.length
  · have hia := hv.iadr (i := k) ⟨by omega, by omega⟩
    simp at hia
    have hld := fun h' => ld_ints (h := h') hlt
    have hmem : l.getD k 0 ∈ l := by simp only [List.getD, List.getElem?_eq_getElem hlt, Option.getD_some]; exact List.getElem_mem hlt
    have htk : l.take (k + 1) = l.take k ++ [l.getD k 0] := by rw [List.take_succ_eq_append_getElem hlt]; simp [List.getD, hlt]
    rw [htk]
    generalize l.getD k 0 = y at *
    have u1 : IntKind.i64.wrap ((k : Int) + 1) = k + 1 := w64 _ (by omega)
    simp [k0, k13, k14, k15, hlt, hia, hld]
    refine (s_Is r y).call ?_
    by_cases c : 0 ≤ y ∧ y < D.q
    · rw [decide_eq_true c]
      simp [k15, u1, hlt]
      intro x hxx
      rcases hxx with hxx | rfl
      · exact hx x hxx
      · exact c
    · rw [decide_eq_false c]
      simp
      rw [if_neg fun hc => c (hc y hmem)]
      exact RetP.same
  · have : k = l.length := by omega
    subst this
    rw [List.take_length] at hx
    simp [k14, k15]
    rw [if_pos hx]
    exact RetP.same

theorem s_List {D : Ds} (r : Rg D) {mv v : AV} (hone : one mv = true) {l : List Int} (hv : IL v l) (hl : l.length < 4611686018427387904) (n : Int) : Pure prog n_ref12_List [.agg [I D.p, I D.m, mv], v, I n] (I (elE D l n)) := by
  classical
  refine pure_of cf_ref12_List rfl fun h => ?_
  simp [hone]
  intro b2 hb2
  obtain ⟨l0, l1, l2, l3⟩ := ld3_at (hset_same h b2 [I D.p, I D.m, mv])
  have hkg : Kp h (hset h b2 [I D.p, I D.m, mv]) := (Kp.refl h).new hb2 _
  generalize hset h b2 [I D.p, I D.m, mv] = g at *
  unfold elE
  by_cases hn : (l.length : Int) = n
  case neg =>
    rw [if_pos hn]
    simp [hv.len, hn]
    exact ⟨_, hkg.sub, .id _, rfl⟩
  rw [if_neg (by simpa using hn)]
  obtain ⟨e, he1, he2, hP⟩ := s_Entries r hone hv hl
  simp [hv.len, hn, l3]
  refine hP.call ?_
  simp
  refine ⟨_, hkg.sub, .id _, ?_⟩
  by_cases hx : ∀ x ∈ l, D.R x
  · rw [if_pos hx, he2.2 hx]
  · rw [if_neg hx, he1.resolve_left fun hc => hx (he2.1 hc)]

theorem pwL_set {D : Ds} {x : Int} {n k : Nat} (hk : k < n) : (pwL D x k ++ List.replicate (n - k) 0).set k (D.pw x k) = pwL D x (k + 1) ++ List.replicate (n - (k + 1)) 0 := by
  rw [set_mid (pwL_len D x k) hk, pwL_succ]

theorem s_powersR {D : Ds} (r : Fd D) (x : Int) (n : Nat) (hn : n ≤ 4294967296) : Pure prog n_regenerate_powers [.fp (gfC D), I x, I n] (.fs n (ints (pwL D x n))) := by
  refine pure_of cf_regenerate_powers rfl fun h => ?_
  have hn' : (n : Int) ≤ 4294967296 := by omega
  simp [hn']
  intro b7 hb7
  have hk0 : Kp h (hset h b7 (ints (List.replicate n 0))) := (Kp.refl h).new hb7 _
  refine awp_for n (fun k fr' h' => Kp h h' ∧ h' b7 = some (ints (pwL D x k ++ List.replicate (n - k) 0)) ∧ fr' 13 = I k) ⟨hk0, by simp [hset_same, pwL], by simp⟩ ?_
  intro k fr' h' hkn hk ⟨hkp, hb, k13⟩
  have k0 := hk 0 (by decide)
  have k1 := hk 1 (by decide)
  have k7 := hk 7 (by decide)
  have k12 := hk 12 (by decide)
  simp at k0 k1 k7 k12
  clear hk
  by_cases hlt : k < n
  · have u2 : IntKind.i64.wrap ((k : Int) + 1) = k + 1 := w64 _ (by omega)
    have st := fun R => sr_ints (R := R) (v := D.pw x k) hb (k := k) (by simp [pwL_len]; omega)
    rw [pwL_set hlt] at st
    simp [k0, k1, k7, k12, k13, hlt]
    refine (s_Pow r x k (by omega)).call ?_
    simp [k13, u2, hlt, st]
    exact hkp.set hb7 _
  · have : k = n := by omega
    subst this
    simp [k7, k12, k13]
    rw [Nat.sub_self, List.replicate_zero, List.append_nil] at hb
    exact ret_blk hb hb7 hkp (by simp [ints_length, pwL_len]) rfl

theorem s_Vector {R : Rc} (hf : FieldP R.p R.m R.mo) {mv pv : AV} (hmv : IL mv R.mo) (hpv : IL pv R.pts) {i : Int} (hi : 0 ≤ i ∧ i < R.pts.length) {d : Nat} (hd : R.d = d) (hd2 : d ≤ 64) :
    Pure prog n_ref52_Vector [.agg (R.cells mv pv), I i] (gl d (ints (pwL R.D (R.pts.getD i.toNat 0) d))) := by
  refine pure_of cf_ref52_Vector rfl fun h => ?_
  have hone := hmv.one
  have hone2 := hpv.one
  have r := hf.fd
  have hia := hpv.iadr hi
  have hld := fun h' => ld_ints (h := h') (l := R.pts) (k := i.toNat) (by omega)
  generalize R.pts.getD i.toNat 0 = x at *
  simp [hone, hone2]
  intro b1 hb1
  have hkg : Kp h (hset h b1 (R.cells mv pv)) := (Kp.refl h).new hb1 _
  have hg1 : (hset h b1 (R.cells mv pv)) b1 = some (R.cells mv pv) := hset_same ..
  generalize hset h b1 (R.cells mv pv) = g at *
  refine awp_for d (fun k fr' h' => (∃ v, fr' 5 = v ∧ Own 1 g h' v k (ints (pwL R.D x k))) ∧ fr' 6 = I k) ⟨⟨.nils, by simp, by simpa [pwL, ints] using Own.nils 1 g⟩, by simp⟩ ?_
  intro k fr' h' hkn hk ⟨⟨v, k5, o⟩, k6⟩
  have k1 := hk 1 (by decide)
  have k2 := hk 2 (by decide)
  simp at k1 k2
  clear hk
  obtain ⟨p0, p3, p4, p5, p6, p7⟩ := ld7_at (o.rd hg1)
  rw [hd] at p5
  by_cases hlt : k < d
  · have u2 : IntKind.i64.wrap ((k : Int) + 1) = k + 1 := w64 _ (by omega)
    have hp1 := s_power r hmv x k (by omega)
    rw [hf.1.dp, hf.1.dm] at hp1
    have hs : ints (pwL R.D x (k + 1)) = ints (pwL R.D x k) ++ [I (R.D.pw x k)] := by rw [pwL_succ, ints_append]; rfl
    rw [hs]
    simp [k1, k2, k5, k6, p0, p5, p6, hlt, hia, hld]
    refine hp1.call ?_
    simp
    intro b hb
    refine o.app1 (m := 1) hb (by simp) (by omega) fun v' h3 o3 => ?_
    simp [k6, u2]
    exact o3
  · have : k = d := by omega
    subst this
    simp [k2, k5, k6, p5]
    exact o.ret hkg rfl

theorem dotK_congr {D : Ds} {a b c : List Int} : ∀ k, (∀ i, i < k → b.getD i 0 = c.getD i 0) → dotK D a b k = dotK D a c k
  | 0, _ => rfl
  | k + 1, h => by
    simp only [dotK]
    rw [dotK_congr k fun i hi => h i (by omega), h k (by omega)]

open Classical in
noncomputable def Rc.helpE (R : Rc) (f : Int) (c : List Int) : Int := if R.E ≠ 0 then R.E else if f < 0 ∨ (R.pts.length : Int) ≤ f then 6 else elE R.D c R.szN
/-- The symbol. -/
noncomputable def Rc.helpV (R : Rc) (f : Int) (c : List Int) : Int := dotK R.D c (pwL R.D (R.pts.getD f.toNat 0) R.szN.toNat) R.szN.toNat
open Classical in
noncomputable def Rc.helpR (R : Rc) (f : Int) (c : List Int) : AV := if R.helpE f c = 0 then .tup [I (R.helpV f c), I 0] else .tup [I 0, I (R.helpE f c)]

theorem Rc.Okn.szN {R : Rc} (o : R.Okn) : 0 ≤ R.szN ∧ R.szN ≤ 63 ∧ R.szN ≤ R.d := by
  have h1 := o.k1
  have h2 := o.kd2
  have h3 := o.d
  unfold Rc.szN
  split <;> omega

theorem newR_pos {p m : Int} {mo : List Int} (h : FieldP p m mo) : newR p m mo = .tup [.fp (gfC (mkD p m mo)), I 0] := by
  unfold newR; rw [if_pos h]

set_option maxHeartbeats 2000000 in
theorem s_Help {R : Rc} {mv pv v : AV} (hmv : IL mv R.mo) (hml : R.mo.length < 4611686018427387904) (hpv : IL pv R.pts) (hpl : R.pts.length < 4611686018427387904) (f : Int) {c : List Int} (hv : IL v c) (hcl : c.length < 4611686018427387904) :
    Pure prog n_regenerate_Help [.agg (R.cells mv pv), I f, v] (R.helpR f c) := by
  classical
  refine pure_of cf_regenerate_Help rfl fun h => ?_
  have hone := hmv.one
  have hone2 := hpv.one
  simp [hone, hone2]
  intro b3 hb3
  obtain ⟨l0, l3, l4, l5, l6, l7⟩ := ld7_at (hset_same h b3 (R.cells mv pv))
  have hkg : Kp h (hset h b3 (R.cells mv pv)) := (Kp.refl h).new hb3 _
  generalize hset h b3 (R.cells mv pv) = g at *
  have bad : ∀ e, R.helpE f c = e → e ≠ 0 → RetP h (R.helpR f c) (.tup [I 0, I e]) g := fun e he h0 => by
    rw [Rc.helpR, if_neg (by rw [he]; exact h0), he]; exact ⟨_, hkg.sub, .id _, rfl⟩
  simp [l7]
  refine (s_regCheck hmv hml hpv hpl).call ?_
  by_cases hE : R.E = 0
  case neg =>
    simp [hE]
    exact bad _ (by rw [Rc.helpE, if_pos hE]) hE
  have hE2 : R.helpE f c = if f < 0 ∨ (R.pts.length : Int) ≤ f then 6 else elE R.D c R.szN := by rw [Rc.helpE, if_neg (by simpa using hE)]
  obtain ⟨hf, e2, e3, ok, e5, _⟩ := Rc.E0 hE
  rw [hE]
  by_cases c1 : f < 0
  · simp [c1]
    exact bad 6 (by rw [hE2, if_pos (.inl c1)]) (by omega)
  by_cases c2 : (R.pts.length : Int) ≤ f
  · simp [c1, c2, l6, hpv.len]
    exact bad 6 (by rw [hE2, if_pos (.inr c2)]) (by omega)
  rw [if_neg (by omega)] at hE2
  have r := hf.fd
  simp [c1, c2, l0, l6, hpv.len]
  refine (s_New R.p R.m hmv hml).call ?_
  rw [newR_pos hf]
  simp [l7]
  refine (s_sizes ok hone hone2).call ?_
  have hsn := ok.szN
  simp
  refine (s_elements r hv hcl R.szN).call ?_
  by_cases he : elE R.D c R.szN = 0
  case neg =>
    have he' := he
    rw [← hE2] at he'
    simp [he]
    exact bad _ hE2 he
  rw [he]
  have hlen : (c.length : Int) = R.szN := by
    unfold elE at he
    split at he
    · omega
    · rename_i hh; exact Classical.byContradiction fun hc => hh hc
  have hia := hpv.iadr (i := f) ⟨by omega, by omega⟩
  have hld := fun h' => ld_ints (h := h') (l := R.pts) (k := f.toNat) (by omega)
  have hV : R.helpR f c = .tup [I (R.helpV f c), I 0] := by rw [Rc.helpR, if_pos (by rw [hE2, he])]
  rw [hV]
  unfold Rc.helpV
  obtain ⟨n, hn⟩ : ∃ n : Nat, R.szN = n := ⟨R.szN.toNat, by omega⟩
  rw [hn] at hlen hsn ⊢
  have hnt : ((n : Int)).toNat = n := by omega
  rw [hnt]
  have hpw := s_powersR r (R.pts.getD f.toNat 0) n (by omega)
  have hIp := IL.fs (pwL R.D (R.pts.getD f.toNat 0) n)
  rw [pwL_len] at hIp
  have hdot := s_Dot r hv hIp hcl (by rw [pwL_len]; omega)
  rw [pwL_len, show min c.length n = n by omega] at hdot
  generalize R.pts.getD f.toNat 0 = x at *
  simp [l6, hia, hld]
  refine hpw.call ?_
  simp
  refine hdot.call ?_
  simp
  exact ⟨_, hkg.sub, .id _, rfl⟩

theorem s_refHelp {R : Rc} (hE : R.E = 0) {mv pv v : AV} (hmv : IL mv R.mo) (hpv : IL pv R.pts) {f : Int} (hf1 : 0 ≤ f ∧ f < R.pts.length) {c : List Int} (hv : IL v c) (hcl : (c.length : Int) = R.szN) :
    Pure prog n_ref52_Help [.agg (R.cells mv pv), I f, v] (I (R.helpV f c)) := by
  refine pure_of cf_ref52_Help rfl fun h => ?_
  have hone := hmv.one
  have hone2 := hpv.one
  obtain ⟨hf, e2, e3, ok, e5, _⟩ := Rc.E0 hE
  have r := hf.fd
  have hsn := ok.szN
  simp [hone, hone2]
  intro b3 hb3
  obtain ⟨l0, l3, l4, l5, l6, l7⟩ := ld7_at (hset_same h b3 (R.cells mv pv))
  have hkg : Kp h (hset h b3 (R.cells mv pv)) := (Kp.refl h).new hb3 _
  generalize hset h b3 (R.cells mv pv) = g at *
  obtain ⟨d, hd⟩ : ∃ d : Nat, R.d = d := ⟨R.d.toNat, by have := ok.k1; have := ok.kd2; omega⟩
  have hd63 := ok.d
  have hvec := s_Vector hf hmv hpv hf1 hd (by omega)
  have hIv := gl_SV (sz := 1) (n := d) (cs := ints (pwL R.D (R.pts.getD f.toNat 0) d)) (by rw [ints_length, pwL_len]; omega)
  have hIv2 : IL (gl d (ints (pwL R.D (R.pts.getD f.toNat 0) d))) (pwL R.D (R.pts.getD f.toNat 0) d) := by
    unfold IL; rw [pwL_len]; exact hIv
  have hdot := s_refDot r hmv hv hIv2 (by omega) (by rw [pwL_len]; omega)
  rw [hf.1.dp, hf.1.dm, pwL_len] at hdot
  unfold Rc.helpV
  obtain ⟨n, hn⟩ : ∃ n : Nat, R.szN = n := ⟨R.szN.toNat, by omega⟩
  rw [hn] at hcl hsn ⊢
  have hnt : ((n : Int)).toNat = n := by omega
  rw [hnt]
  rw [show min c.length d = n by omega] at hdot
  have hcg : dotK R.D c (pwL R.D (R.pts.getD f.toNat 0) d) n = dotK R.D c (pwL R.D (R.pts.getD f.toNat 0) n) n := dotK_congr n fun i hi => by
    rw [pwL_getD (by omega), pwL_getD hi]
  rw [hcg] at hdot
  generalize R.pts.getD f.toNat 0 = x at *
  simp [l0, l7]
  refine hvec.call ?_
  simp
  refine hdot.call ?_
  simp
  exact ⟨_, hkg.sub, .id _, rfl⟩
end Go.AM.Ytmihmgnjnedfcaa
