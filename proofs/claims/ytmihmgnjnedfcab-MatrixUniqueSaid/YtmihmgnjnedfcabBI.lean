import Derived.Test.YtmihmgnjnedfcabBH
import Derived.Test.YtmihmgnjnedfcabBB

section
/- Parts that the laws of chapter 9 share. -/
set_option maxRecDepth 100000
set_option linter.unusedSimpArgs false
set_option linter.unusedVariables false
namespace Go.AM.Ytmihmgnjnedfcab
open Go Go.AM
attribute [local simp ↓] awp_seq awp_reg awp_skip awp_cond' awp_block awp_exit awp_ret awp_fz thenW_normal thenW_exit thenW_ret inBlk_normal inBlk_exit inBlk_ret aops_cons' contA_ap aops_nil e_mv e_guard' e_pick' e_ld' e_app e_cpy e_st' e_call callW_f updO_some updO_none e_bin' e_isnil' e_fadr' e_iadr' e_iarr' e_len' e_build' e_mkf' e_nc' e_not' e_neg' e_cvt' e_slc' e_fld' e_ext' e_min' e_eqs' e_new e_box e_mkl e_mks
attribute [local simp] upd_apply ev_t ev_k ev_f binA_add binA_sub binA_mul binA_quo binA_rem binA_eql binA_neq binA_lss binA_leq binA_gtr binA_geq det mem frame0 keeps_nil iadrA_sl fadrA_ref fadrA_fp ldv_agg ldv_one cells_base hset_same hset_hset lenA_fs lenA_sl lenA_nils zeros_ints ints_length one_base one_nilp one_nils one_ref one_sl one_fp one_fs one_fn gl_one resA resOf bound natOf afill splice AV.cells cells_agg bindR_some condR_true condR_false guardR_tup guardR_true guardR_true' guardR_false guardR_false' allocW_some pickA_true pickA_false
open Go.FM

theorem canR_ok {p m : Int} {mo : List Int} {n : Nat} {L : List (List Int)} (he : openE p m mo [((n : Int), L)] = 0) (hM : Mat (mkD p m mo) n L) (r : Fd (mkD p m mo)) : ∃ CV PV, canR p m mo n L = .tup [.agg [I n, CV], PV, I 0] ∧ ML CV (canL (mkD p m mo) L n) ∧ IL PV (pivL (mkD p m mo) L n) ∧ CV.cells = [CV] ∧ one CV = true ∧ one PV = true := by
  have hcl := canL_len0 r hM n
  refine ⟨_, _, by unfold canR; rw [if_pos he, Int.toNat_natCast], ?_, gil_IL _, rfl, rfl, (gil_IL _).one⟩
  rw [← hcl]; exact ML_fs _
theorem canR_bad {p m : Int} {mo : List Int} {c : Int} {L : List (List Int)} (he : openE p m mo [(c, L)] ≠ 0) : canR p m mo c L = .tup [.agg [I 0, .nils], .nils, I (openE p m mo [(c, L)])] := by
  unfold canR; rw [if_neg he]
theorem st_box2 {h : Hp} {b : Nat} {n : Int} {cv : AV} {R : AV → Hp → Prop} (h1 : cv.cells = [cv]) (h2 : one cv = true) : stR (.ref b 0) (.agg [I n, cv]) 2 (hset h b [I 0, .nils]) R = R (.tup []) (hset h b [I n, cv]) :=
  st_box (cs := [I 0, .nils]) (cs' := [I n, cv]) rfl rfl (by show (one (I n) && (one cv && true)) = true; rw [h2]; rfl)
/-- A matrix over the field has no error. -/
theorem openE_mat {p m : Int} {mo : List Int} {n : Nat} {L : List (List Int)} (hf : FieldP p m mo) (hn : n ≤ 256) (hl : L.length ≤ 256) (hM : Mat (mkD p m mo) n L) : openE p m mo [((n : Int), L)] = 0 := by
  unfold openE
  rw [if_pos hf]
  have : chkE (mkD p m mo) n L = 0 := by
    unfold chkE
    rw [if_neg (by omega), if_neg (fun hh => hh fun row hr => by rw [(hM row hr).1]), if_pos fun row hr x hx => (hM row hr).2 x hx]
  simp only [chkAll]
  rw [if_neg (by simpa using this)]
theorem mat_sm {D : Ds} {n : Nat} {L : List (List Int)} (hn : n ≤ 256) (hl : L.length ≤ 256) (hM : Mat D n L) : MSm L := ⟨by omega, fun row hr => by rw [(hM row hr).1]; omega⟩
theorem pv_get {D : Ds} {L : List (List Int)} {n i : Nat} (hi : i < (elim D L n).pv.length) : (pivL D L n).getD i 0 = (pvF (elim D L n).pv i : Nat) := map_getD' Int.ofNat (elim D L n).pv i 0 0 hi
/-- What a canonical matrix is. -/
structure Rd (D : Ds) (CL : List (List Int)) (rk n : Nat) (pv : List Nat) : Prop where
  len : CL.length = rk
  pvl : pv.length = rk
  le : rk ≤ n
  mat : Mat D n CL
  lt : ∀ i, i < rk → pvF pv i < n
  mono : ∀ i j, i < j → j < rk → pvF pv i < pvF pv j
  unit : ∀ i j, i < rk → j < rk → (CL.getD i []).getD (pvF pv j) 0 = if i = j then 1 else 0
  zero : ∀ i j, i < rk → j < pvF pv i → (CL.getD i []).getD j 0 = 0
theorem rd_of {D : Ds} (r : Fd D) {n : Nat} {L : List (List Int)} (hM : Mat D n L) : Rd D (canL D L n) (rkN D L n) n (elim D L n).pv :=
  ⟨canL_len0 r hM n, rfl, elim_le2 r hM n, canL_mat0 r hM n, fun i hi => can_lt (F := ⟨D, r⟩) hM n hi, fun i j h1 h2 => can_mono (F := ⟨D, r⟩) hM n h1 h2,
   fun i j h1 h2 => can_unit (F := ⟨D, r⟩) hM n h1 h2, fun i j h1 h2 => can_zero (F := ⟨D, r⟩) hM n h1 h2⟩
end Go.AM.Ytmihmgnjnedfcab
end

section
/- Contracts of functions: Canonical of rows whose outer block is live. -/
set_option maxRecDepth 100000
set_option linter.unusedSimpArgs false
set_option linter.unusedVariables false
namespace Go.AM.Ytmihmgnjnedfcab
open Go Go.AM
attribute [local simp ↓] awp_seq awp_reg awp_skip awp_cond' awp_block awp_exit awp_ret awp_fz thenW_normal thenW_exit thenW_ret inBlk_normal inBlk_exit inBlk_ret aops_cons' contA_ap aops_nil e_mv e_guard' e_pick' e_ld' e_app e_cpy e_st' e_call callW_f updO_some updO_none e_bin' e_isnil' e_fadr' e_iadr' e_iarr' e_len' e_build' e_mkf' e_nc' e_not' e_neg' e_cvt' e_slc' e_fld' e_ext' e_min' e_eqs' e_new e_box e_mkl e_mks
attribute [local simp] upd_apply ev_t ev_k ev_f binA_add binA_sub binA_mul binA_quo binA_rem binA_eql binA_neq binA_lss binA_leq binA_gtr binA_geq det mem frame0 keeps_nil iadrA_sl fadrA_ref fadrA_fp ldv_agg ldv_one cells_base hset_same hset_hset lenA_fs lenA_sl lenA_nils zeros_ints ints_length one_base one_nilp one_nils one_ref one_sl one_fp one_fs one_fn gl_one resA resOf bound natOf afill splice AV.cells cells_agg bindR_some condR_true condR_false guardR_tup guardR_true guardR_true' guardR_false guardR_false' allocW_some pickA_true pickA_false
attribute [local simp ↓] callW_t CallV_fn
open Go.FM

/-- Rows that can be read as long as the memory g stays. -/
structure MLH (g : Hp) (v : AV) (L : List (List Int)) : Prop where
  len : lenA v = some L.length
  one : one v = true
  rd : ∀ {i : Nat}, i < L.length → ∃ x y, iadrA v (I i) 1 = some x ∧ (∀ h', Kp g h' → cellsAt h' x 1 = some [y]) ∧ IL y (L.getD i [])
theorem MLH.mono {g g' : Hp} {v : AV} {L : List (List Int)} (a : MLH g v L) (k : Kp g g') : MLH g' v L := ⟨a.len, a.one, fun hi => by
  obtain ⟨x, y, h1, h2, h3⟩ := a.rd hi
  exact ⟨x, y, h1, fun h' kk => h2 h' (k.trans kk), h3⟩⟩
theorem MLH.live {g : Hp} {o : Nat} {L : List (List Int)} (h : g o = some (fL L)) : MLH g (.sl o 0 L.length 1) L := ⟨rfl, rfl, fun {i} hi => by
  refine ⟨.ref o i, frow (L.getD i []), ?_, fun h' k => ?_, IL.fs _⟩
  · rw [iadrA_sl, if_pos ⟨by omega, by omega⟩]; simp
  · rw [ld_one_at (k _ _ h) (by rw [fL_len]; exact hi), frow_getD hi]⟩
theorem MLH.of {g : Hp} {v : AV} {L : List (List Int)} (a : ML v L) : MLH g v L := ⟨a.len, a.one, fun hi => by
  obtain ⟨x, y, h1, h2, h3⟩ := a.rd hi
  exact ⟨x, y, h1, fun h' _ => h2 h', h3⟩⟩

set_option maxHeartbeats 1000000 in
theorem h_check {D : Ds} (r : Fd D) {rv : AV} {L : List (List Int)} {h : Hp} (hr : MLH h rv L) (hLl : L.length < 4611686018427387904) (hrl : ∀ row ∈ L, row.length < 4611686018427387904) (cols : Int) : PureH prog n_matrix_check [.fp (gfC D), .agg [I cols, rv]] h (I (chkE D cols L)) := by
  classical
  refine pureH_of cf_matrix_check rfl ?_
  have hone := hr.one
  simp [hone]
  intro b3 hb3
  have lf := lq_fst (hset_same h b3 [I cols, rv])
  have ls := lq_snd (hset_same h b3 [I cols, rv])
  have hkg : Kp h (hset h b3 [I cols, rv]) := (Kp.refl h).new hb3 _
  generalize hset h b3 [I cols, rv] = g at *
  have fin : ∀ e, chkE D cols L = e → RetP h (I (chkE D cols L)) (I e) g := fun e he => he ▸ ⟨_, hkg.sub, .id _, rfl⟩
  by_cases c1 : cols < 0
  · simp [lf, c1]
    exact fin 3 (by unfold chkE; rw [if_pos (.inl c1)])
  by_cases c2 : 256 < cols
  · simp [lf, c1, c2]
    exact fin 3 (by unfold chkE; rw [if_pos (.inr (.inl c2))])
  by_cases c3 : 256 < (L.length : Int)
  · simp [lf, ls, c1, c2, hr.len, c3]
    exact fin 3 (by unfold chkE; rw [if_pos (.inr (.inr c3))])
  have E1 : chkE D cols L = if ¬ (∀ row ∈ L, (row.length : Int) = cols) then 3 else if ∀ row ∈ L, ∀ x ∈ row, D.R x then 0 else 2 := by unfold chkE; rw [if_neg (by omega)]
  simp [lf, ls, c1, c2, hr.len, c3]
  refine awp_for L.length (fun k fr' h' => h' = g ∧ fr' 27 = I k ∧ ∀ row ∈ L.take k, (row.length : Int) = cols) ⟨rfl, by simp, by simp⟩ ?_
  intro k fr' h' hkn hk ⟨hh, k27, hx⟩
  subst hh
  have k0 := hk 0 (by decide)
  have k3 := hk 3 (by decide)
  have k25 := hk 25 (by decide)
  have k26 := hk 26 (by decide)
  simp at k0 k3 k25 k26
  clear hk
  by_cases hlt : k < L.length
  · obtain ⟨pa, row, hpa, hpl, hrow⟩ := hr.rd hlt
    have hpl := hpl _ hkg
    have hm := mem_getD (d := []) hlt
    rw [take_getD (d := []) hlt]
    generalize L.getD k [] = rl at *
    have u1 : IntKind.i64.wrap ((k : Int) + 1) = k + 1 := w64 _ (by omega)
    by_cases hc : (rl.length : Int) = cols
    · simp [k3, k25, k26, k27, hlt, hpa, hpl, hrow.len, lf, hc, u1]
      intro x hxx
      rcases hxx with hxx | rfl
      · exact hx x hxx
      · exact hc
    · simp [k3, k25, k26, k27, hlt, hpa, hpl, hrow.len, lf, hc]
      exact fin 3 (by rw [E1, if_pos fun hall => hc (hall rl hm)])
  have : k = L.length := by omega
  subst this
  rw [List.take_length] at hx
  have E2 : chkE D cols L = if ∀ row ∈ L, ∀ x ∈ row, D.R x then 0 else 2 := by rw [E1, if_neg (by simpa using hx)]
  simp [k3, k26, k27, ls, hr.len]
  refine awp_for L.length (fun k fr2 h2 => h2 = h' ∧ fr2 40 = I k ∧ ∀ row ∈ L.take k, ∀ x ∈ row, D.R x) ⟨rfl, by simp, by simp⟩ ?_
  intro k fr2 h2 hkn hk2 ⟨hh, k40, hx2⟩
  subst hh
  have m0 := hk2 0 (by decide)
  have m38 := hk2 38 (by decide)
  have m39 := hk2 39 (by decide)
  simp [k0] at m0 m38 m39
  clear hk2
  by_cases hlt : k < L.length
  · obtain ⟨pa, row, hpa, hpl, hrow⟩ := hr.rd hlt
    have hpl := hpl _ hkg
    have hm := mem_getD (d := []) hlt
    rw [take_getD (d := []) hlt]
    generalize L.getD k [] = rl at *
    have hen := s_entries r hrow (hrl rl hm)
    have u1 : IntKind.i64.wrap ((k : Int) + 1) = k + 1 := w64 _ (by omega)
    simp [m0, m38, m39, k40, hlt, hpa, hpl]
    refine hen.call ?_
    by_cases hc : ∀ x ∈ rl, D.R x
    · have he : entE D rl = 0 := by unfold entE; rw [if_pos hc]
      rw [he]
      simp [k40, u1, hlt]
      intro x hxx
      rcases hxx with hxx | rfl
      · exact hx2 x hxx
      · exact hc
    · have he : entE D rl = 2 := by unfold entE; rw [if_neg hc]
      rw [he]
      simp
      exact fin 2 (by rw [E2, if_neg fun hall => hc (hall rl hm)])
  · have : k = L.length := by omega
    subst this
    rw [List.take_length] at hx2
    simp [m39, k40]
    exact fin 0 (by rw [E2, if_pos hx2])


set_option maxHeartbeats 1000000 in
theorem h_open {p m : Int} {mv v : AV} {mo : List Int} (hmv : IL mv mo) (hml : mo.length < 4611686018427387904) {h : Hp} {cells : List AV} {M : List (Int × List (List Int))} (hMl : M.length < 4611686018427387904) (hM : ∀ i, i < M.length → cells.getD (i * 2) .nils = I (M.getD i default).1 ∧ MLH h (cells.getD (i * 2 + 1) .nils) (M.getD i default).2) (hMs : ∀ i, i < M.length → MSm (M.getD i default).2)
    (hv : SV 2 v M.length cells ∨ ∃ b, v = .sl b 0 M.length 2 ∧ h b = some cells ∧ cells.length = M.length * 2) :
    PureH prog n_matrix_open [.agg [I p, I m, mv], v] h (openR p m mo M) := by
  classical
  refine pureH_of cf_matrix_open rfl ?_
  have hone := hmv.one
  simp [hone]
  intro b2 hb2
  obtain ⟨l0, l1, l2, l3⟩ := ld3_at (hset_same h b2 [I p, I m, mv])
  have hkg : Kp h (hset h b2 [I p, I m, mv]) := (Kp.refl h).new hb2 _
  generalize hset h b2 [I p, I m, mv] = g at *
  simp [l3]
  refine (s_New p m hmv hml).call ?_
  have hlen : lenA v = some M.length := by
    rcases hv with hv | ⟨b, rfl, _, _⟩
    · exact hv.len
    · rfl
  have hrd : ∀ i, i < M.length → ∃ x, iadrA v (I i) 2 = some x ∧ ∀ h', Kp g h' → cellsAt h' x 2 = some [cells.getD (i * 2) .nils, cells.getD (i * 2 + 1) .nils] := by
    intro i hi
    rcases hv with hv | ⟨b, rfl, hb, hcl⟩
    · have hcl := hv.1
      refine ⟨_, hv.iadr (i := i) ⟨by omega, by omega⟩, fun h' _ => ?_⟩
      simp only [Int.toNat_natCast]
      rw [cellsAt_fpd (by omega), take2 (by omega)]
    · refine ⟨.ref b (0 + i * 2), ?_, fun h' k => ?_⟩
      · rw [iadrA_sl, if_pos ⟨by omega, by omega⟩]; simp
      · rw [ld_at (hkg.trans k b _ hb) (by omega), Nat.zero_add, take2 (by omega)]
  by_cases hf : FieldP p m mo
  case neg =>
    unfold newR openR openE
    rw [if_neg hf, if_neg hf]
    simp
    exact ⟨_, hkg.sub, .id _, rfl⟩
  rw [newR_pos' hf]
  have r := hf.fd
  have hE : openE p m mo M = chkAll (mkD p m mo) M := by unfold openE; rw [if_pos hf]
  unfold openR
  rw [hE]
  generalize mkD p m mo = D at *
  simp [hlen]
  refine awp_for M.length (fun k fr' h' => Kp g h' ∧ fr' 20 = I k ∧ chkAll D (M.take k) = 0) ⟨Kp.refl g, by simp, by simp [chkAll]⟩ ?_
  intro k fr' h' hkn hk ⟨hkp, k20, hx⟩
  have k6 := hk 6 (by decide)
  have k18 := hk 18 (by decide)
  have k19 := hk 19 (by decide)
  simp at k6 k18 k19
  clear hk
  by_cases hlt : k < M.length
  · obtain ⟨x, hx1, hx2⟩ := hrd k hlt
    obtain ⟨e1, e2⟩ := hM k hlt
    have hsm := hMs k hlt
    have htk := take_getD (d := default) hlt
    have hsp : M = M.take k ++ M.getD k default :: M.drop (k + 1) := by
      have : M.getD k default = M[k] := by simp [List.getD, hlt]
      rw [this, ← List.drop_eq_getElem_cons hlt, List.take_append_drop]
    have hx3 := hx2 _ hkp
    rw [htk]
    generalize M.getD k default = P at *
    obtain ⟨cols, L⟩ := P
    simp only at e1 e2 hsm
    rw [e1] at hx3
    generalize cells.getD (k * 2 + 1) .nils = rv at *
    have hro := e2.one
    have u1 : IntKind.i64.wrap ((k : Int) + 1) = k + 1 := w64 _ (by omega)
    simp [k18, k19, k20, hlt, hx1, hx3]
    intro b9 hb9
    have sra := fun R => sr_all (R := R) (cs' := [I cols, rv]) (hset_same h' b9 [I 0, .nils]) (n := 2) rfl rfl (by
      show (one (I cols) && (one rv && true)) = true
      rw [hro]; rfl)
    have hk9 : Kp g (hset h' b9 [I cols, rv]) := hkp.new hb9 _
    have lb := lq_both (hset_same h' b9 [I cols, rv])
    have hck := h_check r (e2.mono (hkg.trans hk9)) hsm.1 hsm.2 cols
    simp [sra, k6, lb]
    refine hck.call ?_
    by_cases hc : chkE D cols L = 0
    · have hnx : chkAll D (M.take k ++ [(cols, L)]) = 0 := by rw [chkAll_append hx]; simp [chkAll, hc]
      rw [hc]
      simp [k20, u1, hlt]
      exact ⟨hk9, hnx⟩
    · have hall : chkAll D M = chkE D cols L := by
        rw [hsp, chkAll_append hx]; simp [chkAll, hc]
      simp [hc]
      rw [hall, if_neg hc]
      exact ⟨_, (hkg.trans hk9).sub, .id _, rfl⟩
  · have : k = M.length := by omega
    subst this
    rw [List.take_length] at hx
    simp [k6, k19, k20]
    rw [hx, if_pos rfl]
    exact ⟨_, (hkg.trans hkp).sub, .id _, rfl⟩

theorem h_clone {v : AV} {L : List (List Int)} {h : Hp} (hv : MLH h v L) (hL : L.length ≤ 4294967296) (hw : ∀ row ∈ L, 0 < row.length ∧ row.length ≤ 4294967296) : Spec prog n_matrix_clone [v] h (LiveV h L) := by
  refine spec_of cf_matrix_clone rfl ?_
  have hL' : (L.length : Int) ≤ 4294967296 := by omega
  simp [hv.len, hL', one_nils]
  intro b hb
  rw [zeros_nils]
  refine awp_for L.length (fun k fr' h' => (∃ bs, PM h h' b bs k L) ∧ fr' 11 = I k) ⟨⟨_, PM.start hb L⟩, by simp⟩ ?_
  intro k fr' h' hkn hk ⟨⟨bs, p⟩, k11⟩
  have k3 := hk 3 (by decide)
  have k9 := hk 9 (by decide)
  have k10 := hk 10 (by decide)
  simp at k3 k9 k10
  clear hk
  by_cases hlt : k < L.length
  · have u1 : IntKind.i64.wrap ((k : Int) + 1) = k + 1 := w64 _ (by omega)
    obtain ⟨pa, row, hpa, hpl, hrow⟩ := hv.rd hlt
    have hpl := hpl _ p.kp
    have hm := hw _ (mem_getD (d := []) hlt)
    have hcl := w_Clone hrow hm.1 hm.2 h'
    have hput := fun (b2 : Nat) (h2 : Hp) => p.put hlt (b := b2) (h2 := h2)
    generalize L.getD k [] = lk at *
    simp [k3, k9, k10, k11, hlt, hpa, hpl]
    refine call0 hcl fun v' h2 ⟨kp, b2, hb2, hv', hb3⟩ => ?_
    subst hv'
    obtain ⟨s1, s2⟩ := hput _ _ kp hb2 hb3
    simp [k11, u1, hlt, s1]
    exact ⟨_, s2⟩
  · have : k = L.length := by omega
    subst this
    simp [k3, k10, k11]
    exact ⟨b, bs, rfl, p.done⟩


theorem h_canon {D : Ds} (r : Fd D) {v : AV} {L : List (List Int)} {h : Hp} (hv : MLH h v L) {cols : Nat} (hM : Mat D cols L) (hL : L.length ≤ 4294967296) (hc : cols ≤ 4294967296) (h0 : 0 < cols) :
    PureH prog n_matrix_canon [.fp (gfC D), v, I cols] h (.tup [.fs (rkN D L cols) ((canL D L cols).map frow), gil (pivL D L cols)]) := by
  refine pureH_of cf_matrix_canon rfl ?_
  have hle := elim_le r hM cols
  have hpv := pivL_len D L cols
  have hpo := (gil_IL (pivL D L cols)).len
  unfold c_matrix_canon_0 c_matrix_canon_1
  generalize hC : c_matrix_canon_2 = C2
  simp
  refine call0 (h_clone hv hL (fun row hr => by rw [(hM row hr).1]; omega)) fun v1 h1 ⟨o, bs, hv1, a⟩ => ?_
  subst hv1
  have hel := w_eliminate r (E2.of (w := cols) a fun row hr => by rw [(hM row hr).1]; exact Nat.le_refl _) hM hc (Nat.le_refl _) hL (Nat.le_refl _)
  subst hC
  unfold c_matrix_canon_2
  generalize hC : c_matrix_canon_3 = C3
  simp
  refine call0 hel fun v2 h2 ⟨hv2, e2⟩ => ?_
  subst hv2
  have hM2 := hM.elim r.toOk cols
  obtain ⟨bs2, a2⟩ := e2.lv fun row hr => by rw [(hM2 row hr).1]; exact Nat.le_refl _
  have hln := elim_len D L cols
  have hfz := a2.frzP (r := rkN D L cols) (by omega)
  rw [List.map_take] at hfz
  have hpv' : (up (elim D L cols).pv) = pivL D L cols := rfl
  have hcl : (canL D L cols) = (elim D L cols).L.take (rkN D L cols) := rfl
  rw [hpv', hcl]
  have hsl : slcA (.sl o 0 L.length 1) 0 (rkN D L cols) (some (rkN D L cols)) 1 = some (.sl o 0 (rkN D L cols) 1) := by
    unfold slcA; simp; omega
  generalize gil (pivL D L cols) = pv at *
  rw [hpv] at hpo
  generalize rkN D L cols = rk at *
  subst hC
  simp [hpo, hsl]
  exact RetP.tup hfz.1 rfl (frz2 hfz.2 (.id _))


theorem h_Canonical {p m : Int} {mv v : AV} {mo : List Int} (hmv : IL mv mo) (hml : mo.length < 4611686018427387904) {c : Int} {L : List (List Int)} {h : Hp} (hv : MLH h v L) (hs : MSm L) (hc0 : c ≠ 0) :
    PureH prog n_matrix_Canonical [.agg [I p, I m, mv], .agg [I c, v]] h (canR p m mo c L) := by
  refine pureH_of cf_matrix_Canonical rfl ?_
  have hone := hmv.one
  have hone2 := hv.one
  unfold c_matrix_Canonical_0 c_matrix_Canonical_1
  generalize hC : c_matrix_Canonical_2 = C2
  simp [hone, hone2]
  intro b2 hb2 b3 hb3 b4 hb4
  have g2 : (hset (hset (hset h b2 [I p, I m, mv]) b3 [I c, v]) b4 [I 0, .nils]) b2 = some [I p, I m, mv] := ((Kp.refl _).new hb3 _).new hb4 _ b2 _ (hset_same ..)
  have g3 : (hset (hset (hset h b2 [I p, I m, mv]) b3 [I c, v]) b4 [I 0, .nils]) b3 = some [I c, v] := (Kp.refl _).new hb4 _ b3 _ (hset_same ..)
  have g4 : (hset (hset (hset h b2 [I p, I m, mv]) b3 [I c, v]) b4 [I 0, .nils]) b4 = some [I 0, .nils] := hset_same ..
  have hk : Kp h (hset (hset (hset h b2 [I p, I m, mv]) b3 [I c, v]) b4 [I 0, .nils]) := (((Kp.refl h).new hb2 _).new hb3 _).new hb4 _
  have n4 : h b4 = none := (((Kp.refl h).new hb2 [I p, I m, mv]).new hb3 [I c, v]).no hb4
  generalize hset (hset (hset h b2 [I p, I m, mv]) b3 [I c, v]) b4 [I 0, .nils] = g at *
  obtain ⟨_, _, _, l2⟩ := ld3_at g2
  have l3 := lq_both g3
  simp [l2, l3, hone2]
  intro b hb
  have hkb : Kp g (hset g b [I c, v]) := (Kp.refl g).new hb _
  have hv2 := hv.mono (hk.trans hkb)
  refine (h_open (p := p) (m := m) (v := .sl b 0 1 2) hmv hml (cells := [I c, v]) (M := [(c, L)]) (by simp) (fun i hi => by
    match i, hi with
    | 0, _ => exact ⟨rfl, hv2⟩) (fun i hi => by
    match i, hi with
    | 0, _ => exact hs) (.inr ⟨b, rfl, hset_same .., rfl⟩)).call ?_
  have g3 := hkb _ _ g3
  have g4 := hkb _ _ g4
  have hk := hk.trans hkb
  generalize hset g b [I c, v] = G at *
  have l30 := lq_fst g3
  have l31 := lq_snd g3
  unfold openR canR
  by_cases he : openE p m mo [(c, L)] = 0
  · rw [if_pos he, if_pos he]
    obtain ⟨hf, n, rfl, hn, hLn, hM⟩ := openE_one he
    have r := hf.fd
    have hcan := h_canon r hv2 hM (by omega) (by omega) (by omega)
    rw [Int.toNat_natCast]
    subst hC
    simp [l30, l31]
    refine hcan.call ?_
    generalize rkN (mkD p m mo) L n = rk at *
    generalize (canL (mkD p m mo) L n).map frow = cl at *
    generalize gil (pivL (mkD p m mo) L n) = pv at *
    have st := fun R => sr_all (R := R) (cs' := [I n, .fs rk cl]) g4 (n := 2) rfl rfl rfl
    have l4 := lq_both (hset_same G b4 [I n, .fs rk cl])
    simp [l30, st, l4]
    exact ⟨_, (hk.set n4 _).sub, .id _, rfl⟩
  · rw [if_neg he, if_neg he]
    generalize openE p m mo [(c, L)] = e at *
    subst hC
    have st0 := fun R => sr_all (R := R) (cs' := [I 0, .nils]) g4 (n := 2) rfl rfl rfl
    rw [hset_id g4] at st0
    have l4 := lq_both g4
    simp [he, st0, l4]
    exact ⟨_, hk.sub, .id _, rfl⟩


end Go.AM.Ytmihmgnjnedfcab
end

section
/- Row operations leave the canonical matrix as it is, on lists. No code is walked here. -/
set_option maxRecDepth 100000
set_option linter.unusedSimpArgs false
set_option linter.unusedVariables false
namespace Go.AM.Ytmihmgnjnedfcab
open Go Go.AM Go.FM Go.LA

section
variable {p m : Int} {mo : List Int} {n : Nat} {L L' : List (List Int)}
theorem canR_RE (r : Fd (mkD p m mo)) (hM : Mat (mkD p m mo) n L) (hM' : Mat (mkD p m mo) n L') (hl : L'.length = L.length) {d : El ⟨mkD p m mo, r⟩} (h : RE L.length (mtx ⟨mkD p m mo, r⟩ L) (mtx ⟨mkD p m mo, r⟩ L') d)
    (he : openE p m mo [((n : Int), L)] = 0) (he' : openE p m mo [((n : Int), L')] = 0) : canR p m mo n L' = canR p m mo n L := by
  obtain ⟨e1, e2, e3⟩ := canL_RE (F := ⟨mkD p m mo, r⟩) hM hM' hl h
  simp only at e1 e2 e3
  unfold canR
  rw [if_pos he, if_pos he', Int.toNat_natCast]
  have : pivL (mkD p m mo) L' n = pivL (mkD p m mo) L n := by unfold pivL; rw [e2]
  rw [this, ← e1, ← e3]
theorem set_at {i : Nat} (hi : i < L.length) (l : List Int) (k : Nat) : (L.set i l).getD k [] = if k = i then l else L.getD k [] := by
  rw [getD_set]
  by_cases e : k = i
  · subst e; rw [if_pos ⟨rfl, hi⟩, if_pos rfl]
  · rw [if_neg (fun h => e h.1), if_neg e]
theorem Mat.put {D : Ds} (hM : Mat D n L) {i : Nat} {l : List Int} (h1 : l.length = n) (h2 : ∀ x ∈ l, D.R x) : Mat D n (L.set i l) := fun row hr => by
  rcases List.mem_or_eq_of_mem_set hr with h | h
  · exact hM row h
  · rw [h]; exact ⟨h1, h2⟩

theorem op_sw (r : Fd (mkD p m mo)) (hM : Mat (mkD p m mo) n L) {i j : Nat} (hi : i < L.length) (hj : j < L.length) (hij : i ≠ j) : ∃ d, RE L.length (mtx ⟨mkD p m mo, r⟩ L) (mtx ⟨mkD p m mo, r⟩ (swL L i j)) d :=
  ⟨_, ((RE.refl _).swap hi hj hij).cng fun x _ y => by
    show swapR (mtx ⟨mkD p m mo, r⟩ L) i j x y = toK _ (((swL L i j).getD x []).getD y 0)
    rw [swL_get hi hj]
    unfold swapR
    by_cases e0 : x = i
    · subst e0; rw [if_pos rfl, if_neg hij, if_pos rfl]; rfl
    · rw [if_neg e0]
      by_cases e1 : x = j
      · subst e1; rw [if_pos rfl, if_pos rfl]; rfl
      · rw [if_neg e1, if_neg e1, if_neg e0]; rfl⟩
theorem op_add (r : Fd (mkD p m mo)) (hM : Mat (mkD p m mo) n L) {i j : Nat} (hi : i < L.length) (hj : j < L.length) (hij : i ≠ j) (a : Int) : Mat (mkD p m mo) n (L.set i (addV (mkD p m mo) (L.getD i []) a (L.getD j []))) ∧
    ∃ d, RE L.length (mtx ⟨mkD p m mo, r⟩ L) (mtx ⟨mkD p m mo, r⟩ (L.set i (addV (mkD p m mo) (L.getD i []) a (L.getD j [])))) d := by
  have h1 := hM.len hi
  have h2 := hM.len hj
  refine ⟨Mat.put hM (by rw [addV_len, h1]) (addV_R r.toOk (hM.R hi) _), _, ((RE.refl _).add hi hj hij (toK ⟨mkD p m mo, r⟩ a)).cng fun x _ y => ?_⟩
  show addR (mtx ⟨mkD p m mo, r⟩ L) i _ j x y = vc ⟨mkD p m mo, r⟩ ((L.set i (addV (mkD p m mo) (L.getD i []) a (L.getD j []))).getD x []) y
  rw [set_at hi]
  unfold addR
  by_cases e : x = i
  · rw [if_pos e, if_pos e]
    exact (vc_addV (F := ⟨mkD p m mo, r⟩) (by omega) a y).symm
  · rw [if_neg e, if_neg e]; rfl
theorem op_scale (r : Fd (mkD p m mo)) (hM : Mat (mkD p m mo) n L) {j : Nat} (hj : j < L.length) {a : Int} (ha : (mkD p m mo).R a) (h0 : a ≠ 0) : Mat (mkD p m mo) n (L.set j (addV (mkD p m mo) (List.replicate n 0) a (L.getD j []))) ∧
    ∃ d, RE L.length (mtx ⟨mkD p m mo, r⟩ L) (mtx ⟨mkD p m mo, r⟩ (L.set j (addV (mkD p m mo) (List.replicate n 0) a (L.getD j [])))) d := by
  have h2 := hM.len hj
  have hne : toK ⟨mkD p m mo, r⟩ a ≠ 0 := fun h => h0 (toK_inj (F := ⟨mkD p m mo, r⟩) ha r.toOk.q0 (by rw [h, toK_zero]))
  refine ⟨Mat.put hM (by rw [addV_len, List.length_replicate]) (addV_R r.toOk (fun x hx => by rw [List.eq_of_mem_replicate hx]; exact r.toOk.q0) _), _, ((RE.refl _).scale hj hne).cng fun x _ y => ?_⟩
  show scaleR (mtx ⟨mkD p m mo, r⟩ L) j _ x y = vc ⟨mkD p m mo, r⟩ ((L.set j (addV (mkD p m mo) (List.replicate n 0) a (L.getD j []))).getD x []) y
  rw [set_at hj]
  unfold scaleR
  by_cases e : x = j
  · rw [if_pos e, if_pos e, show vc ⟨mkD p m mo, r⟩ (addV (mkD p m mo) (List.replicate n 0) a (L.getD j [])) y = _ from vc_addV (F := ⟨mkD p m mo, r⟩) (by rw [h2, List.length_replicate]; exact Nat.le_refl n) a y]
    have hz : vc ⟨mkD p m mo, r⟩ (List.replicate n 0) y = 0 := by
      unfold vc
      by_cases hy : y < n
      · rw [show (List.replicate n (0 : Int)).getD y 0 = 0 by simp [List.getD, hy]]; exact toK_zero
      · rw [getD_out (by simp; omega)]; exact toK_zero
    rw [hz, LA.add_comm, LA.add_zero]; rfl
  · rw [if_neg e, if_neg e]; rfl
end

/-- Two different rows. -/
theorem pick_two {n X Y : Nat} (hn : 2 ≤ n) : X % n < n ∧ (X % n + 1 + Y % (n - 1)) % n < n ∧ X % n ≠ (X % n + 1 + Y % (n - 1)) % n := by
  have h1 := Nat.mod_lt X (show 0 < n by omega)
  have h2 := Nat.mod_lt Y (show 0 < n - 1 by omega)
  generalize X % n = i at *
  generalize Y % (n - 1) = s at *
  refine ⟨h1, Nat.mod_lt _ (by omega), ?_⟩
  by_cases h : i + 1 + s < n
  · rw [Nat.mod_eq_of_lt h]; omega
  · rw [Nat.mod_eq_sub_mod (by omega), Nat.mod_eq_of_lt (by omega)]; omega
end Go.AM.Ytmihmgnjnedfcab
end

section
/- Codes of the program, as the conversion gives them. -/
set_option maxRecDepth 100000
namespace Go.AM.Ytmihmgnjnedfcab
open Go Go.AM
-- law09_MatrixUnique
abbrev c_law09_MatrixUnique_18 : SC := .ret
abbrev c_law09_MatrixUnique_17 : SC := .seq (.reg [o 155 (.mv (.t 17)), o 156 (.bin .eql (.t 155) (ki 0)), o 157 (.mv (.t 156)), og 157 true 0 158 (.mv (.t 20)), og 157 true 0 159 (.bin .eql (.t 158) (ki 0)), o 160 (.pick (.t 157) (.t 159) (kb false)), o 161 (.mv (.t 160)), og 161 true 0 162 (.mv (.t 23)), og 161 true 0 163 (.bin .eql (.t 162) (ki 0)), o 164 (.pick (.t 161) (.t 163) (kb false)), o 165 (.mv (.t 164)), og 165 true 0 166 (.ld (.t 15) 2 true), og 165 true 0 167 (.ld (.t 7) 2 true), og 165 true 0 168 (.call (.f n_ref09_Same) [.t 166, .t 167]), o 169 (.pick (.t 165) (.t 168) (kb false)), o 170 (.mv (.t 169)), og 170 true 0 171 (.ld (.t 18) 2 true), og 170 true 0 172 (.ld (.t 7) 2 true), og 170 true 0 173 (.call (.f n_ref09_Same) [.t 171, .t 172]), o 174 (.pick (.t 170) (.t 173) (kb false)), o 175 (.mv (.t 174)), og 175 true 0 176 (.ld (.t 21) 2 true), og 175 true 0 177 (.ld (.t 7) 2 true), og 175 true 0 178 (.call (.f n_ref09_Same) [.t 176, .t 177]), o 179 (.pick (.t 175) (.t 178) (kb false)), o 6 (.mv (.t 179))]) c_law09_MatrixUnique_18
abbrev c_law09_MatrixUnique_16 : SC := .seq (.reg [o 146 (.ld (.t 3) 3 true), o 147 (.fadr (.t 4) 0), o 148 (.ld (.t 147) 1 false), o 149 (.mv (.t 14)), o 150 (.build [I 0, .nils] [(0, (1, .t 148)), (1, (1, .t 149))]), o 151 (.call (.f n_matrix_Canonical) [.t 146, .t 150]), o 145 (.mv (.t 151)), o 152 (.ext (.t 145) 0), o 153 (.ext (.t 145) 1), o 154 (.ext (.t 145) 2), o 21 (.new [I 0, .nils]), os (.st (.t 21) (.t 152) 2), o 22 (.mv (.t 153)), o 23 (.mv (.t 154))]) c_law09_MatrixUnique_17
abbrev c_law09_MatrixUnique_15 : SC := .seq (.reg [o 132 (.mv (.t 14)), o 133 (.mv (.t 12)), o 135 (.fadr (.t 4) 0), o 138 (.mv (.t 13)), o 139 (.mv (.t 14)), o 140 (.mv (.t 12)), o 141 (.iadr (.t 139) (.t 140) 1), o 134 (.ld (.t 3) 3 true), o 136 (.ld (.t 135) 1 false), o 142 (.ld (.t 141) 1 false), o 137 (.mks (.t 136) 1 [I 0]), om 1 143 (.call (.f n_ref09_AddTo) [.t 134, .t 137, .t 138, .t 142]), o 144 (.iadr (.t 132) (.t 133) 1), os (.st (.t 144) (.t 143) 1)]) c_law09_MatrixUnique_16
abbrev c_law09_MatrixUnique_14 : SC := .seq (.reg [o 123 (.ld (.t 3) 3 true), o 124 (.fadr (.t 4) 0), o 125 (.ld (.t 124) 1 false), o 126 (.mv (.t 14)), o 127 (.build [I 0, .nils] [(0, (1, .t 125)), (1, (1, .t 126))]), o 128 (.call (.f n_matrix_Canonical) [.t 123, .t 127]), o 122 (.mv (.t 128)), o 129 (.ext (.t 122) 0), o 130 (.ext (.t 122) 1), o 131 (.ext (.t 122) 2), o 18 (.new [I 0, .nils]), os (.st (.t 18) (.t 129) 2), o 19 (.mv (.t 130)), o 20 (.mv (.t 131))]) c_law09_MatrixUnique_15
abbrev c_law09_MatrixUnique_13 : SC := .seq (.reg [o 108 (.mv (.t 14)), o 109 (.mv (.t 11)), o 111 (.mv (.t 14)), o 112 (.mv (.t 11)), o 113 (.iadr (.t 111) (.t 112) 1), o 115 (.mv (.t 13)), o 116 (.mv (.t 14)), o 117 (.mv (.t 12)), o 118 (.iadr (.t 116) (.t 117) 1), o 110 (.ld (.t 3) 3 true), o 114 (.ld (.t 113) 1 false), o 119 (.ld (.t 118) 1 false), om 1 120 (.call (.f n_ref09_AddTo) [.t 110, .t 114, .t 115, .t 119]), o 121 (.iadr (.t 108) (.t 109) 1), os (.st (.t 121) (.t 120) 1)]) c_law09_MatrixUnique_14
abbrev c_law09_MatrixUnique_12 : SC := .seq (.reg [o 99 (.ld (.t 3) 3 true), o 100 (.fadr (.t 4) 0), o 101 (.ld (.t 100) 1 false), o 102 (.mv (.t 14)), o 103 (.build [I 0, .nils] [(0, (1, .t 101)), (1, (1, .t 102))]), o 104 (.call (.f n_matrix_Canonical) [.t 99, .t 103]), o 98 (.mv (.t 104)), o 105 (.ext (.t 98) 0), o 106 (.ext (.t 98) 1), o 107 (.ext (.t 98) 2), o 15 (.new [I 0, .nils]), os (.st (.t 15) (.t 105) 2), o 16 (.mv (.t 106)), o 17 (.mv (.t 107))]) c_law09_MatrixUnique_13
abbrev c_law09_MatrixUnique_11 : SC := .seq (.reg [o 84 (.mv (.t 14)), o 85 (.mv (.t 11)), o 86 (.mv (.t 14)), o 87 (.mv (.t 12)), o 88 (.mv (.t 14)), o 89 (.mv (.t 12)), o 90 (.iadr (.t 88) (.t 89) 1), o 92 (.mv (.t 14)), o 93 (.mv (.t 11)), o 94 (.iadr (.t 92) (.t 93) 1), o 91 (.ld (.t 90) 1 false), o 95 (.ld (.t 94) 1 false), o 96 (.iadr (.t 84) (.t 85) 1), os (.st (.t 96) (.t 91) 1), o 97 (.iadr (.t 86) (.t 87) 1), os (.st (.t 97) (.t 95) 1)]) c_law09_MatrixUnique_12
abbrev c_law09_MatrixUnique_10 : SC := .seq (.reg [o 81 (.fadr (.t 4) 1), o 82 (.ld (.t 81) 1 false), o 83 (.call (.f n_ref09_Copy) [.t 82]), o 14 (.mv (.t 83))]) c_law09_MatrixUnique_11
abbrev c_law09_MatrixUnique_9 : SC := .seq (.reg [o 73 (.iarr (.t 5) (ki 2) 3 1), o 74 (.ld (.t 73) 1 false), o 75 (.cvt .i64 (.t 74)), o 76 (.ld (.t 3) 3 true), om 1 77 (.call (.f n_ref04_Order) [.t 76]), o 78 (.bin .sub (.t 77) (ki 1)), o 79 (.bin .rem (.t 75) (.t 78)), o 80 (.bin .add (ki 1) (.t 79)), o 13 (.mv (.t 80))]) c_law09_MatrixUnique_10
abbrev c_law09_MatrixUnique_8 : SC := .seq (.reg [o 62 (.mv (.t 11)), o 63 (.bin .add (.t 62) (ki 1)), o 64 (.iarr (.t 5) (ki 1) 3 1), o 65 (.ld (.t 64) 1 false), o 66 (.cvt .i64 (.t 65)), o 67 (.mv (.t 10)), o 68 (.bin .sub (.t 67) (ki 1)), o 69 (.bin .rem (.t 66) (.t 68)), o 70 (.bin .add (.t 63) (.t 69)), o 71 (.mv (.t 10)), o 72 (.bin .rem (.t 70) (.t 71)), o 12 (.mv (.t 72))]) c_law09_MatrixUnique_9
abbrev c_law09_MatrixUnique_7 : SC := .seq (.reg [o 57 (.iarr (.t 5) (ki 0) 3 1), o 58 (.ld (.t 57) 1 false), o 59 (.cvt .i64 (.t 58)), o 60 (.mv (.t 10)), o 61 (.bin .rem (.t 59) (.t 60)), o 11 (.mv (.t 61))]) c_law09_MatrixUnique_8
abbrev c_law09_MatrixUnique_6 : SC := .seq (.reg [o 54 (.fadr (.t 4) 1), o 55 (.ld (.t 54) 1 false), o 56 (.len (.t 55)), o 10 (.mv (.t 56))]) c_law09_MatrixUnique_7
abbrev c_law09_MatrixUnique_5 : SC := .seq (.seq (.reg [o 51 (.fadr (.t 4) 0), o 52 (.ld (.t 51) 1 false), o 53 (.bin .eql (.t 52) (ki 0))]) (.cond (.t 53) (.seq (.reg [o 6 (.mv (kb true))]) .ret) .skip)) c_law09_MatrixUnique_6
abbrev c_law09_MatrixUnique_4 : SC := .seq (.seq (.reg [o 49 (.mv (.t 9)), o 50 (.bin .neq (.t 49) (ki 0))]) (.cond (.t 50) (.seq (.reg [o 6 (.mv (kb false))]) .ret) .skip)) c_law09_MatrixUnique_5
abbrev c_law09_MatrixUnique_3 : SC := .seq (.seq (.reg [o 39 (.ld (.t 3) 3 true), o 40 (.ld (.t 4) 2 true), o 41 (.call (.f n_ref09_Check) [.t 39, .t 40]), o 42 (.bin .neq (.t 41) (ki 0)), o 43 (.mv (.t 42)), og 43 false 0 44 (.fadr (.t 4) 1), og 43 false 0 45 (.ld (.t 44) 1 false), og 43 false 0 46 (.len (.t 45)), og 43 false 0 47 (.bin .lss (.t 46) (ki 2)), o 48 (.pick (.t 43) (kb true) (.t 47))]) (.cond (.t 48) (.seq (.reg [o 6 (.mv (kb true))]) .ret) .skip)) c_law09_MatrixUnique_4
abbrev c_law09_MatrixUnique_2 : SC := .seq (.reg [o 33 (.ld (.t 3) 3 true), o 34 (.ld (.t 4) 2 true), o 35 (.call (.f n_matrix_Canonical) [.t 33, .t 34]), o 32 (.mv (.t 35)), o 36 (.ext (.t 32) 0), o 37 (.ext (.t 32) 1), o 38 (.ext (.t 32) 2), o 7 (.new [I 0, .nils]), os (.st (.t 7) (.t 36) 2), o 8 (.mv (.t 37)), o 9 (.mv (.t 38))]) c_law09_MatrixUnique_3
abbrev c_law09_MatrixUnique_1 : SC := .seq (.seq (.reg [o 24 (.call (.f n_law09_awake) []), o 25 (.not (.t 24)), o 26 (.mv (.t 25)), og 26 false 0 27 (.ld (.t 4) 2 true), og 26 false 0 28 (.call (.f n_ref09_Few) [.t 27, ki 200]), og 26 false 0 29 (.not (.t 28)), o 30 (.pick (.t 26) (kb true) (.t 29))]) (.cond (.t 30) (.seq (.reg [o 31 (.call (.f n_law09_awake) []), o 6 (.mv (.t 31))]) .ret) .skip)) c_law09_MatrixUnique_2
abbrev c_law09_MatrixUnique_0 : SC := .seq (.reg [o 3 (.box (.t 0)), o 4 (.box (.t 1)), o 5 (.box (.t 2)), o 6 (.mv (kb false))]) c_law09_MatrixUnique_1
theorem cf_law09_MatrixUnique : cfun Go.Proofs.Try.prog md n_law09_MatrixUnique = some ⟨3, 180, c_law09_MatrixUnique_0.erase, [.t 6]⟩ := by kernel_rfl
end Go.AM.Ytmihmgnjnedfcab
end

section
/- The law MatrixUnique. -/
set_option maxRecDepth 100000
set_option linter.unusedSimpArgs false
set_option linter.unusedVariables false
namespace Go.AM.Ytmihmgnjnedfcab
open Go Go.AM
attribute [local simp ↓] awp_seq awp_reg awp_skip awp_cond' awp_block awp_exit awp_ret awp_fz thenW_normal thenW_exit thenW_ret inBlk_normal inBlk_exit inBlk_ret aops_cons' contA_ap aops_nil e_mv e_guard' e_pick' e_ld' e_app e_cpy e_st' e_call callW_f updO_some updO_none e_bin' e_isnil' e_fadr' e_iadr' e_iarr' e_len' e_build' e_mkf' e_nc' e_not' e_neg' e_cvt' e_slc' e_fld' e_ext' e_min' e_eqs' e_new e_box e_mkl e_mks
attribute [local simp] upd_apply ev_t ev_k ev_f binA_add binA_sub binA_mul binA_quo binA_rem binA_eql binA_neq binA_lss binA_leq binA_gtr binA_geq det mem frame0 keeps_nil iadrA_sl fadrA_ref fadrA_fp ldv_agg ldv_one cells_base hset_same hset_hset lenA_fs lenA_sl lenA_nils zeros_ints ints_length one_base one_nilp one_nils one_ref one_sl one_fp one_fs one_fn gl_one resA resOf bound natOf afill splice AV.cells cells_agg bindR_some condR_true condR_false guardR_tup guardR_true guardR_true' guardR_false guardR_false' allocW_some pickA_true pickA_false
open Go.FM

abbrev U8 (x : Int) : AV := .base (.int .u8 x)
theorem u_boxes {h : Hp} {b2 b3 b4 : Nat} {xs ys zs : List AV} (hb2 : h b2 = none) (hb3 : hset h b2 xs b3 = none) (hb4 : hset (hset h b2 xs) b3 ys b4 = none) :
    (hset (hset (hset h b2 xs) b3 ys) b4 zs) b2 = some xs ∧ (hset (hset (hset h b2 xs) b3 ys) b4 zs) b3 = some ys ∧ (hset (hset (hset h b2 xs) b3 ys) b4 zs) b4 = some zs ∧ Kp h (hset (hset (hset h b2 xs) b3 ys) b4 zs) := by
  obtain ⟨a, b, c, d, _⟩ := three_boxes (zs := zs) hb2 hb3 hb4
  exact ⟨a, b, c, d⟩
theorem same_ok {x : AV} {M : List (List Int)} (a : ML x M) (s : MSm M) (c : Int) : Pure prog n_ref09_Same [.agg [I c, x], .agg [I c, x]] (B true) := by
  have := s_Same (c := c) (d := c) a a s.1 (fun i hi => s.2 _ (mem_getD hi))
  rwa [decide_eq_true ⟨rfl, rfl⟩] at this

set_option maxHeartbeats 8000000 in
theorem s_MatrixUnique {p m : Int} {mv v : AV} {mo : List Int} (hmv : IL mv mo) (hml : mo.length < 4611686018427387904) {c : Int} {L : List (List Int)} (hv : ML v L) (hs : MSm L) {x y z : Int} (hx : 0 ≤ x ∧ x ≤ 255) (hy : 0 ≤ y ∧ y ≤ 255) (hz : 0 ≤ z ∧ z ≤ 255) :
    Pure prog n_law09_MatrixUnique [.agg [I p, I m, mv], .agg [I c, v], .agg [U8 x, U8 y, U8 z]] (B true) := by
  refine pure_of cf_law09_MatrixUnique rfl fun h => ?_
  have hone := hmv.one
  have hone2 := hv.one
  unfold c_law09_MatrixUnique_0 c_law09_MatrixUnique_1
  generalize hC : c_law09_MatrixUnique_2 = C2
  simp [hone, hone2]
  intro b3 hb3 b4 hb4 b5 hb5
  obtain ⟨g3, g4, g5, hk⟩ := u_boxes (zs := [U8 x, U8 y, U8 z]) hb3 hb4 hb5
  generalize hset (hset (hset h b3 [I p, I m, mv]) b4 [I c, v]) b5 [U8 x, U8 y, U8 z] = H0 at *
  obtain ⟨_, _, _, l3⟩ := ld3_at g3
  have l4 := lq_both g4
  have l40 := lq_fst g4
  have l41 := lq_snd g4
  refine s_awake.call ?_
  simp [l4]
  refine (s_Few hv hs.1 (n := 200) (by omega)).call ?_
  by_cases hf : fewB c L 200 = true
  case neg =>
    have : fewB c L 200 = false := by simpa using hf
    rw [this]
    simp
    refine s_awake.call ?_
    simp
    exact ⟨_, hk.sub, .id _, rfl⟩
  rw [hf]
  simp
  refine awp_gen [3, 4, 5] fun fr0 hsl => ?_
  have p3 := hsl 3 (by simp)
  have p4 := hsl 4 (by simp)
  have p5 := hsl 5 (by simp)
  simp at p3 p4 p5
  clear hsl
  have q1 := s_Canonical (p := p) (m := m) hmv hml (c := c) hv hs
  have q2 := s_ref09Check (p := p) (m := m) hmv hml (c := c) hv hs
  by_cases he : openE p m mo [(c, L)] = 0
  case neg =>
    rw [canR_bad he] at q1
    generalize openE p m mo [(c, L)] = e at *
    subst hC
    unfold c_law09_MatrixUnique_2
    generalize hC : c_law09_MatrixUnique_3 = C3
    simp [p3, p4, l3, l4]
    refine q1.call ?_
    simp [st_box]
    intro b7 hb7
    have kk := (Kp.refl H0).new hb7 [I 0, .nils]
    have g3 := kk _ _ g3
    have g4 := kk _ _ g4
    have hk := hk.trans kk
    clear l3 l4 l40 l41
    generalize hset H0 b7 [I 0, .nils] = H1 at *
    obtain ⟨_, _, _, l3⟩ := ld3_at g3
    have l4 := lq_both g4
    subst hC
    unfold c_law09_MatrixUnique_3
    generalize hC : c_law09_MatrixUnique_4 = C4
    simp [p3, p4, l3, l4]
    refine q2.call ?_
    simp [he]
    exact ⟨_, hk.sub, .id _, rfl⟩
  obtain ⟨hfp, n, rfl, hn, hLn, hM⟩ := openE_one he
  have r := hfp.fd
  obtain ⟨CV, PV, hcr, hCM, hPI, hcc, hco, hpo1⟩ := canR_ok he hM r
  have rd := rd_of r hM
  have hCsm := mat_sm hn (by have := rd.len; have := rd.le; omega) rd.mat
  have dsame := same_ok hCM hCsm n
  rw [hcr] at q1
  rw [he] at q2
  have hst := fun h b R => st_box2 (h := h) (b := b) (n := n) (R := R) hcc hco
  subst hC
  unfold c_law09_MatrixUnique_2
  generalize hC : c_law09_MatrixUnique_3 = C3
  simp [p3, p4, l3, l4]
  refine q1.call ?_
  simp [hst]
  intro b7 hb7
  have kk := (Kp.refl H0).new hb7 [I n, CV]
  have g7 := hset_same H0 b7 [I n, CV]
  have g3 := kk _ _ g3
  have g4 := kk _ _ g4
  have g5 := kk _ _ g5
  have hk := hk.trans kk
  clear l3 l4 l40 l41 kk hb7
  generalize hset H0 b7 [I n, CV] = H1 at *
  obtain ⟨_, _, _, l3⟩ := ld3_at g3
  have l4 := lq_both g4
  have l40 := lq_fst g4
  have l41 := lq_snd g4
  subst hC
  unfold c_law09_MatrixUnique_3
  generalize hC : c_law09_MatrixUnique_4 = C4
  simp [p3, p4, l3, l4]
  refine q2.call ?_
  by_cases hn2 : L.length < 2
  · have hn2' : (L.length : Int) < 2 := by omega
    simp [p4, l41, hv.len, hn2, hn2']
    exact ⟨_, hk.sub, .id _, rfl⟩
  have hn2' : ¬ (L.length : Int) < 2 := by omega
  simp [p4, l41, hv.len, hn2, hn2']
  subst hC
  unfold c_law09_MatrixUnique_4
  generalize hC : c_law09_MatrixUnique_5 = C5
  simp
  subst hC
  unfold c_law09_MatrixUnique_5
  generalize hC : c_law09_MatrixUnique_6 = C6
  by_cases hn0 : n = 0
  · simp [p4, l40, hn0]
    exact ⟨_, hk.sub, .id _, rfl⟩
  simp [p4, l40, hn0]
  refine awp_gen [3, 4, 5, 7] fun fr1 hsl => ?_
  have n3 := hsl 3 (by simp)
  have n4 := hsl 4 (by simp)
  have n5 := hsl 5 (by simp)
  have n7 := hsl 7 (by simp)
  simp [p3, p4, p5] at n3 n4 n5 n7
  clear hsl p3 p4 p5
  -- the numbers
  obtain ⟨X, rfl⟩ : ∃ X : Nat, x = X := ⟨x.toNat, by omega⟩
  obtain ⟨Y, rfl⟩ : ∃ Y : Nat, y = Y := ⟨y.toNat, by omega⟩
  obtain ⟨Z, rfl⟩ : ∃ Z : Nat, z = Z := ⟨z.toNat, by omega⟩
  have a0 := ld_one_at g5 (k := 0) (by simp)
  have a1 := ld_one_at g5 (k := 1) (by simp)
  have a2 := ld_one_at g5 (k := 2) (by simp)
  simp only [List.getD, List.getElem?_cons_zero, List.getElem?_cons_succ, Option.getD_some] at a0 a1 a2
  have ux : IntKind.i64.wrap (X : Int) = X := w64 _ (by omega)
  have uy : IntKind.i64.wrap (Y : Int) = Y := w64 _ (by omega)
  have uz : IntKind.i64.wrap (Z : Int) = Z := w64 _ (by omega)
  obtain ⟨hi, hj, hij⟩ := pick_two (n := L.length) (X := X) (Y := Y) (by omega)
  have t1 : (X : Int).tmod (L.length : Int) = ((X % L.length : Nat) : Int) := (Int.ofNat_tmod _ _).symm
  have v1 : IntKind.i64.wrap ((L.length : Int) - 1) = ((L.length - 1 : Nat) : Int) := by rw [w64 _ (by omega)]; omega
  have t2 : (Y : Int).tmod ((L.length - 1 : Nat) : Int) = ((Y % (L.length - 1) : Nat) : Int) := (Int.ofNat_tmod _ _).symm
  have hm2 := Nat.mod_lt Y (show 0 < L.length - 1 by omega)
  have v2 : IntKind.i64.wrap (((X % L.length : Nat) : Int) + 1) = ((X % L.length : Nat) : Int) + 1 := w64 _ (by omega)
  have v3 : IntKind.i64.wrap (((X % L.length : Nat) : Int) + 1 + ((Y % (L.length - 1) : Nat) : Int)) = ((X % L.length + 1 + Y % (L.length - 1) : Nat) : Int) := by rw [w64 _ (by omega)]; omega
  have t3 : ((X % L.length + 1 + Y % (L.length - 1) : Nat) : Int).tmod (L.length : Int) = (((X % L.length + 1 + Y % (L.length - 1)) % L.length : Nat) : Int) := (Int.ofNat_tmod _ _).symm
  have hq2 := r.toOk.q2
  have hq256 := r.toRg.q256
  obtain ⟨Q, hQ⟩ : ∃ Q : Nat, (mkD p m mo).q = Q := ⟨_, rfl⟩
  have hord := s_Order p m hone
  have ho := r.toRg.ord
  rw [hfp.1.dp, hfp.1.dm, hQ] at ho
  rw [ho] at hord
  have v4 : IntKind.i64.wrap ((Q : Int) - 1) = ((Q - 1 : Nat) : Int) := by rw [w64 _ (by omega)]; omega
  have t4 : (Z : Int).tmod ((Q - 1 : Nat) : Int) = ((Z % (Q - 1) : Nat) : Int) := (Int.ofNat_tmod _ _).symm
  have hm4 := Nat.mod_lt Z (show 0 < Q - 1 by omega)
  have v5 : IntKind.i64.wrap (1 + ((Z % (Q - 1) : Nat) : Int)) = ((1 + Z % (Q - 1) : Nat) : Int) := by rw [w64 _ (by omega)]; omega
  have haR : (mkD p m mo).R ((1 + Z % (Q - 1) : Nat) : Int) := ⟨by omega, by rw [hQ]; omega⟩
  have ha0 : ((1 + Z % (Q - 1) : Nat) : Int) ≠ 0 := by omega
  have hne1 : ¬ (L.length - 1 : Nat) = 0 := by omega
  have hneQ : ¬ (Q - 1 : Nat) = 0 := by omega
  have hneL : ¬ L.length = 0 := by omega
  have hneL2 : ¬ L = [] := fun e => by rw [e] at hneL; exact hneL rfl
  generalize X % L.length = i at *
  generalize hj0 : (i + 1 + Y % (L.length - 1)) % L.length = j at *
  generalize i + 1 + Y % (L.length - 1) = s1 at *
  generalize Y % (L.length - 1) = s0 at *
  generalize (1 + Z % (Q - 1) : Nat) = an at *
  generalize hL1 : (L.length - 1 : Nat) = len1 at *
  generalize hQ1 : (Q - 1 : Nat) = qq at *
  generalize Z % qq = zz at *
  generalize ((an : Nat) : Int) = a at *
  subst hC
  unfold c_law09_MatrixUnique_6
  generalize hC : c_law09_MatrixUnique_7 = C7
  simp [n4, l41, hv.len]
  subst hC
  unfold c_law09_MatrixUnique_7
  generalize hC : c_law09_MatrixUnique_8 = C8
  simp [n5, iarrA, a0, ux, t1, hneL, hneL2]
  subst hC
  unfold c_law09_MatrixUnique_8
  generalize hC : c_law09_MatrixUnique_9 = C9
  simp [n5, iarrA, a1, uy, v1, t2, v2, v3, t3, hne1, hneL, hneL2]
  subst hC
  unfold c_law09_MatrixUnique_9
  generalize hC : c_law09_MatrixUnique_10 = C10
  simp [n5, n3, iarrA, a2, uz, l3]
  refine hord.call ?_
  simp [v4, t4, v5, hneQ]
  refine awp_gen [3, 4, 7, 11, 12, 13] fun fr2 hsl => ?_
  have p3 := hsl 3 (by simp)
  have p4 := hsl 4 (by simp)
  have p7 := hsl 7 (by simp)
  have p11 := hsl 11 (by simp)
  have p12 := hsl 12 (by simp)
  have p13 := hsl 13 (by simp)
  simp [n3, n4, n7] at p3 p4 p7 p11 p12 p13
  clear hsl n3 n4 n5 n7 a0 a1 a2 ux uy uz t1 v1 t2 v2 v3 t3 hord v4 t4 v5 g5 q1 q2
  -- the three matrices
  have hM1 := hM.sw hi hj
  obtain ⟨d1, re1⟩ := op_sw r hM hi hj hij
  have hl1 := swL_len L i j
  have o1 := openE_mat hfp hn (by omega) hM1
  have c1 := (canR_RE r hM hM1 hl1 re1 he o1).trans hcr
  generalize hL1' : swL L i j = L1 at *
  obtain ⟨hM2, d2, re2⟩ := op_add r hM1 (i := i) (j := j) (by omega) (by omega) hij a
  have hl2 : (L1.set i (addV (mkD p m mo) (L1.getD i []) a (L1.getD j []))).length = L1.length := by simp
  have o2 := openE_mat hfp hn (by omega) hM2
  have c2 := (canR_RE r hM1 hM2 hl2 re2 o1 o2).trans c1
  generalize hL2' : L1.set i (addV (mkD p m mo) (L1.getD i []) a (L1.getD j [])) = L2 at *
  obtain ⟨hM3, d3, re3⟩ := op_scale r hM2 (j := j) (by omega) haR ha0
  have hl3 : (L2.set j (addV (mkD p m mo) (List.replicate n 0) a (L2.getD j []))).length = L2.length := by simp
  have o3 := openE_mat hfp hn (by omega) hM3
  have c3 := (canR_RE r hM2 hM3 hl3 re3 o2 o3).trans c2
  generalize hL3' : L2.set j (addV (mkD p m mo) (List.replicate n 0) a (L2.getD j [])) = L3 at *
  clear re1 re2 re3 o1 o2 o3 d1 d2 d3
  have cano : ∀ M : List (List Int), M.length = L.length → Mat (mkD p m mo) n M → canR p m mo n M = .tup [.agg [I n, CV], PV, I 0] → ∀ (H : Hp) (o : Nat), H o = some (fL M) → PureH prog n_matrix_Canonical [.agg [I p, I m, mv], .agg [I n, .sl o 0 L.length 1]] H (.tup [.agg [I n, CV], PV, I 0]) := fun M h1 h2 h3 H o h4 => by
    have := h_Canonical (p := p) (m := m) hmv hml (c := n) (MLH.live h4) (mat_sm hn (by omega) h2) (by omega)
    rw [h3, h1] at this
    exact this
  have rdk : ∀ (M : List (List Int)) (H : Hp) (o k : Nat), M.length = L.length → Mat (mkD p m mo) n M → k < L.length → H o = some (fL M) → cellsAt H (.ref o k) 1 = some [.fs n (ints (M.getD k []))] := fun M H o k h1 h2 h3 h4 => by
    rw [ld_one_at h4 (by rw [fL_len]; omega), frow_getD (by omega)]
    unfold frow
    rw [h2.len (by omega)]
  have stk : ∀ (M : List (List Int)) (H : Hp) (o k : Nat) (l : List Int), M.length = L.length → k < L.length → l.length = n → H o = some (fL M) → ∀ R : AV → Hp → Prop, stR (.ref o k) (.fs n (ints l)) 1 H R = R (.tup []) (hset H o (fL (M.set k l))) := fun M H o k l h1 h2 h3 h4 R => by
    have := sr_one (R := R) (v := frow l) (k := k) h4 (frow_cell _).1 (frow_cell _).2 (by rw [fL_len]; omega)
    rw [frow_set] at this
    unfold frow at this
    rw [h3] at this
    exact this
  have hmv2 : IL mv (mkD p m mo).mo := hmv
  have il : ∀ (M : List (List Int)) (k : Nat), M.length = L.length → Mat (mkD p m mo) n M → k < L.length → IL (.fs n (ints (M.getD k []))) (M.getD k []) := fun M k h1 h2 h3 => by
    have := IL.fs (M.getD k [])
    rwa [h2.len (by omega)] at this
  subst hC
  unfold c_law09_MatrixUnique_10
  generalize hC : c_law09_MatrixUnique_11 = C11
  simp [p4, l41]
  refine call0 (w_Copy hv (by omega) (by omega) (fun row hr => by rw [(hM row hr).1]; omega) H1) fun v1 h1 ⟨o, hv1, ho1, hh⟩ => ?_
  subst hv1 hh
  have hfl : L.map frow = fL L := rfl
  rw [hfl]
  have no := hk.no ho1
  have hko : Kp H1 (hset H1 o (fL L)) := (Kp.refl H1).new ho1 _
  have x3 : b3 ≠ o := fun e => by rw [e, ho1] at g3; cases g3
  have x4 : b4 ≠ o := fun e => by rw [e, ho1] at g4; cases g4
  have x7 : b7 ≠ o := fun e => by rw [e, ho1] at g7; cases g7
  clear l3 l4 l40 l41
  -- the exchange
  subst hC
  unfold c_law09_MatrixUnique_11
  generalize hC : c_law09_MatrixUnique_12 = C12
  have hoo := hset_same H1 o (fL L)
  have rj := rdk L _ o j rfl hM hj hoo
  have ri := rdk L _ o i rfl hM hi hoo
  have s1 := stk L _ o i (L.getD j []) rfl hi (hM.len hj) hoo
  have s2 := stk (L.set i (L.getD j [])) _ o j (L.getD i []) (by simp) hj (hM.len hi) (hset_same (hset H1 o (fL L)) o (fL (L.set i (L.getD j []))))
  rw [hset_hset, hset_hset] at s2
  rw [hset_hset] at s1
  have hsw : (L.set i (L.getD j [])).set j (L.getD i []) = L1 := hL1'
  rw [hsw] at s2
  have hi' : (i : Int) < L.length := by omega
  have hj' : (j : Int) < L.length := by omega
  clear hsw
  generalize ints (L.getD j []) = cj at *
  generalize ints (L.getD i []) = ci at *
  generalize fL (L.set i (L.getD j [])) = mid at *
  simp [p11, p12, hi, hj, hi', hj', rj, ri, s1, s2]
  clear rj ri s1 s2 hoo
  have g3' : (hset H1 o (fL L1)) b3 = some [I p, I m, mv] := by rw [hset_ne _ _ x3]; exact g3
  have g4' : (hset H1 o (fL L1)) b4 = some [I n, v] := by rw [hset_ne _ _ x4]; exact g4
  have g7' : (hset H1 o (fL L1)) b7 = some [I n, CV] := by rw [hset_ne _ _ x7]; exact g7
  have hk' : Kp h (hset H1 o (fL L1)) := hk.set no _
  have hoo := hset_same H1 o (fL L1)
  clear g3 g4 g7 hk hko
  generalize hset H1 o (fL L1) = G1 at *
  obtain ⟨_, _, _, l3⟩ := ld3_at g3'
  have l40 := lq_fst g4'
  -- the first
  have e1 := cano L1 (by omega) hM1 c1 G1 o hoo
  subst hC
  unfold c_law09_MatrixUnique_12
  generalize hC : c_law09_MatrixUnique_13 = C13
  simp [p3, p4, l3, l40]
  refine e1.call ?_
  simp [hst]
  intro b15 hb15
  have kk := (Kp.refl G1).new hb15 [I n, CV]
  have g15 := hset_same G1 b15 [I n, CV]
  have x15 : b15 ≠ o := fun e => by rw [e, hoo] at hb15; cases hb15
  have n15 := hk'.no hb15
  have g3 := kk _ _ g3'
  have g4 := kk _ _ g4'
  have g7 := kk _ _ g7'
  have hoo2 := kk _ _ hoo
  have hk := hk'.trans kk
  clear kk hb15 l3 l40 g3' g4' g7' hk' hoo e1
  generalize hset G1 b15 [I n, CV] = G2 at *
  obtain ⟨_, _, _, l3⟩ := ld3_at g3
  have l40 := lq_fst g4
  -- a multiple of a row is added
  subst hC
  unfold c_law09_MatrixUnique_13
  generalize hC : c_law09_MatrixUnique_14 = C14
  have ri := rdk L1 _ o i (by omega) hM1 hi hoo2
  have rj := rdk L1 _ o j (by omega) hM1 hj hoo2
  have w1 := hM1.len (i := i) (by omega)
  have w2 := hM1.len (i := j) (by omega)
  have ad := s_AddTo (h := G2) r hmv2 (RS.of (il L1 i (by omega) hM1 hi)) (RS.of (il L1 j (by omega) hM1 hj)) (by omega) (by omega) a
  rw [hfp.1.dp, hfp.1.dm, w1] at ad
  have s2 := stk L1 _ o i (addV (mkD p m mo) (L1.getD i []) a (L1.getD j [])) (by omega) hi (by rw [addV_len]; exact w1) hoo2
  rw [hL2'] at s2
  generalize ints (addV (mkD p m mo) (L1.getD i []) a (L1.getD j [])) = ca at *
  generalize ints (L1.getD i []) = ci2 at *
  generalize ints (L1.getD j []) = cj2 at *
  simp [p3, p11, p12, p13, hi, hj, hi', hj', ri, rj, l3]
  refine ad.call ?_
  simp [s2, hi, hi']
  clear ri rj ad s2
  have g3' : (hset G2 o (fL L2)) b3 = some [I p, I m, mv] := by rw [hset_ne _ _ x3]; exact g3
  have g4' : (hset G2 o (fL L2)) b4 = some [I n, v] := by rw [hset_ne _ _ x4]; exact g4
  have g7' : (hset G2 o (fL L2)) b7 = some [I n, CV] := by rw [hset_ne _ _ x7]; exact g7
  have g15' : (hset G2 o (fL L2)) b15 = some [I n, CV] := by rw [hset_ne _ _ x15]; exact g15
  have hk' : Kp h (hset G2 o (fL L2)) := hk.set no _
  have hoo := hset_same G2 o (fL L2)
  clear g3 g4 g7 g15 hk l3 l40 hoo2
  generalize hset G2 o (fL L2) = G3 at *
  obtain ⟨_, _, _, l3⟩ := ld3_at g3'
  have l40 := lq_fst g4'
  refine awp_gen [3, 4, 7, 11, 12, 13, 14, 15, 17] fun fr3 hsl => ?_
  have n3 := hsl 3 (by simp)
  have n4 := hsl 4 (by simp)
  have n7 := hsl 7 (by simp)
  have n11 := hsl 11 (by simp)
  have n12 := hsl 12 (by simp)
  have n13 := hsl 13 (by simp)
  have n14 := hsl 14 (by simp)
  have n15' := hsl 15 (by simp)
  have n17 := hsl 17 (by simp)
  simp [p3, p4, p7, p11, p12, p13] at n3 n4 n7 n11 n12 n13 n14 n15' n17
  clear hsl p3 p4 p7 p11 p12 p13
  -- the second
  have e2 := cano L2 (by omega) hM2 c2 G3 o hoo
  subst hC
  unfold c_law09_MatrixUnique_14
  generalize hC : c_law09_MatrixUnique_15 = C15
  simp [n3, n4, n14, l3, l40]
  refine e2.call ?_
  simp [hst]
  intro b18 hb18
  have kk := (Kp.refl G3).new hb18 [I n, CV]
  have g18 := hset_same G3 b18 [I n, CV]
  have x18 : b18 ≠ o := fun e => by rw [e, hoo] at hb18; cases hb18
  have g3 := kk _ _ g3'
  have g4 := kk _ _ g4'
  have g7 := kk _ _ g7'
  have g15 := kk _ _ g15'
  have hoo2 := kk _ _ hoo
  have hk := hk'.trans kk
  clear kk hb18 l3 l40 g3' g4' g7' g15' hk' hoo e2
  generalize hset G3 b18 [I n, CV] = G4 at *
  -- a row is multiplied
  have hn' : (n : Int) ≤ 4294967296 := by omega
  subst hC
  unfold c_law09_MatrixUnique_15
  generalize hC : c_law09_MatrixUnique_16 = C16
  obtain ⟨_, _, _, l3⟩ := ld3_at g3
  have l40 := lq_fst g4
  have rj := rdk L2 _ o j (by omega) hM2 hj hoo2
  have hil := il L2 j (by omega) hM2 hj
  generalize ints (L2.getD j []) = cj3 at *
  simp [n3, n4, n12, n13, n14, hj, hj', rj, l3, l40, hn']
  intro b137 hb137
  have kk := (Kp.refl G4).new hb137 (ints (List.replicate n 0))
  have hz : (hset G4 b137 (ints (List.replicate n 0))) b137 = some (ints (List.replicate n 0)) := hset_same ..
  have g3 := kk _ _ g3
  have g4 := kk _ _ g4
  have g7 := kk _ _ g7
  have g15 := kk _ _ g15
  have g18 := kk _ _ g18
  have hoo3 := kk _ _ hoo2
  have hk := hk.trans kk
  clear kk l3 l40 rj
  generalize hset G4 b137 (ints (List.replicate n 0)) = G5 at *
  have w3 := hM2.len (i := j) (by omega)
  have hrl : (List.replicate n (0 : Int)).length = n := by simp
  have ad := s_AddTo (h := G5) r hmv2 (v := .sl b137 0 n 1) (vl := List.replicate n 0) (.inr ⟨b137, by rw [hrl], hz⟩) (RS.of hil) (by rw [hrl]; omega) (by rw [hrl]; omega) a
  rw [hfp.1.dp, hfp.1.dm, hrl] at ad
  have s2 := stk L2 _ o j (addV (mkD p m mo) (List.replicate n 0) a (L2.getD j [])) (by omega) hj (by rw [addV_len]; exact hrl) hoo3
  rw [hL3'] at s2
  generalize ints (addV (mkD p m mo) (List.replicate n 0) a (L2.getD j [])) = ca2 at *
  refine ad.call ?_
  simp [s2, hj, hj']
  clear ad s2 hz
  have g3' : (hset G5 o (fL L3)) b3 = some [I p, I m, mv] := by rw [hset_ne _ _ x3]; exact g3
  have g4' : (hset G5 o (fL L3)) b4 = some [I n, v] := by rw [hset_ne _ _ x4]; exact g4
  have g7' : (hset G5 o (fL L3)) b7 = some [I n, CV] := by rw [hset_ne _ _ x7]; exact g7
  have g15' : (hset G5 o (fL L3)) b15 = some [I n, CV] := by rw [hset_ne _ _ x15]; exact g15
  have g18' : (hset G5 o (fL L3)) b18 = some [I n, CV] := by rw [hset_ne _ _ x18]; exact g18
  have hk' : Kp h (hset G5 o (fL L3)) := hk.set no _
  have hoo := hset_same G5 o (fL L3)
  clear g3 g4 g7 g15 g18 hk hoo3 hoo2
  generalize hset G5 o (fL L3) = G6 at *
  obtain ⟨_, _, _, l3⟩ := ld3_at g3'
  have l40 := lq_fst g4'
  -- the third
  have e3 := cano L3 (by omega) hM3 c3 G6 o hoo
  subst hC
  unfold c_law09_MatrixUnique_16
  generalize hC : c_law09_MatrixUnique_17 = C17
  simp [n3, n4, n14, l3, l40]
  refine e3.call ?_
  simp [hst]
  intro b21 hb21
  have kk := (Kp.refl G6).new hb21 [I n, CV]
  have l21 := lq_both (hset_same G6 b21 [I n, CV])
  have l7 := lq_both (kk _ _ g7')
  have l15 := lq_both (kk _ _ g15')
  have l18 := lq_both (kk _ _ g18')
  have hk := hk'.trans kk
  clear kk hb21 l3 l40
  generalize hset G6 b21 [I n, CV] = G7 at *
  subst hC
  simp [n7, n15', n17, l7, l15, l18, l21]
  refine dsame.call ?_
  simp [n7, l7, l18]
  refine dsame.call ?_
  simp [n7, l7, l21]
  refine dsame.call ?_
  simp
  exact ⟨_, hk.sub, .id _, rfl⟩
end Go.AM.Ytmihmgnjnedfcab
end
